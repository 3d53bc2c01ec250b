/-
  Layer 18's reference: a simplification done; what is so; the same programs.
-/
import Derived.Test.YtdbennmbbmoflaaResD
import Derived.Test.YtdbennmbbmoflaaResE
import Derived.Deep.RegionHeld3
namespace Go.Proofs.Ytdbennmbbmoflaa
open Go Go.RowKit

/-! ### Truth -/
def truthOf (g : Prog) (a : Int) : Int := if factB g a = true then 2 else if rulesB g a = true then 1 else 0
def truthTo (g : Prog) (k : Nat) : List Int := (List.range k).map fun (a : Nat) => truthOf g (a : Int)
def truthL (g : Prog) : List Int := truthTo g g.atoms.length
theorem truthTo_len (g : Prog) (k : Nat) : (truthTo g k).length = k := by simp [truthTo]
theorem truthTo_succ (g : Prog) (k : Nat) : truthTo g (k + 1) = truthTo g k ++ [truthOf g (k : Int)] := by simp [truthTo, List.range_succ]

set_option maxHeartbeats 800000 in
set_option maxRecDepth 100000 in
theorem TruthR_spec {S : Nat → Prop} {w : World} {v : Value} {g : Prog} (hg : ProgV S w v g) (hgood : GoodP g) :
    Calls Try.prog 21 #[v] w (Ret (fun o w' => Seq intE (fun b => w.heap.size ≤ b) w' o (truthL g)) w) := by
  have hg' := hg
  obtain ⟨va, vb, rfl, ⟨aa, ac, rfl, hac, ham, hal, han, ha⟩, -⟩ := hg
  obtain ⟨n, hn⟩ : ∃ n, n = g.atoms.length := ⟨_, rfl⟩
  have hfin := Lib.hid (show truthL g = truthTo g n by rw [hn]; rfl)
  have hnl : n ≤ 1000000000 := by rw [hn]; exact hgood.alen
  rw [← hn] at hac hal hg' ⊢
  clear hn ha
  have hrl := hgood.rlen
  obtain ⟨W0, hW0⟩ : ∃ W0, W0 = w.alloc (.cells #[.slice aa n ac, vb] 30) := ⟨_, rfl⟩
  have HW := Lib.hid hW0
  have hB0 : Below w.heap.size w W0 := by rw [hW0]; exact Seq.way
  have hs0 : w.heap.size + 1 ≤ W0.heap.size := by rw [hW0]; simp
  have c0 : W0.cell? ⟨w.heap.size, 0, none⟩ = some (.slice aa n ac) := by rw [hW0]; go_simp
  have c1 : W0.cell? ⟨w.heap.size, 1, none⟩ = some vb := by rw [hW0]; go_simp
  clear hW0
  go_enter Try.func21, Try.ntmps21
  go_wp2_with fail
  go_loopw [3, 4] (fun o i wr => ∃ k : Nat, k ≤ n ∧ i = .int .i64 k ∧ Own intE (fun _ => False) (w.heap.size+1) 3 wr o (truthTo g k) ∧ Below (w.heap.size+1) W0 wr) (fun _ i _ => n - (intOf i).toNat)
  case atStart => exact ⟨0, Nat.zero_le _, rfl, Own.lit0 (by simp) (by simp) rfl, by rw [HW.out]; exact Seq.way⟩
  case round =>
    obtain ⟨k, hk, rfl, hown, hbel⟩ := hrel
    have hb0 : Below w.heap.size w wr := hB0.trans (hbel.mono (by omega))
    have hsz : w.heap.size + 1 ≤ wr.heap.size := by have := hbel.size; omega
    have hszl : w.heap.size < wr.heap.size := by omega
    have d0 := (hbel.cell (p := ⟨w.heap.size, 0, none⟩) (by simp)).trans c0
    have d1 := (hbel.cell (p := ⟨w.heap.size, 1, none⟩) (by simp)).trans c1
    have hlen := truthTo_len g k
    have hlen1 : (truthTo g k).length ≤ 1000000000000 := by omega
    clear hlen
    by_cases hlt : k < n
    · have hgr := hg'.mono (T := S) (w' := wr) (fun _ h _ => h) fun b _ hb => hb0.block b hb
      have hsn := Lib.hid (truthTo_succ g k)
      have htv := Lib.hid (show truthOf g (k : Int) = if factB g k = true then 2 else if rulesB g k = true then 1 else 0 from rfl)
      have hf1 := Lib.hid (fact_spec (a := (k : Int)) hgr)
      go_wp2_with fail
      refine hf1.out.mono ?_
      rintro e w1 ⟨rfl, hb1⟩
      have hc1 : ∀ b o, b < wr.heap.size → w1.cell? ⟨b, o, none⟩ = wr.cell? ⟨b, o, none⟩ := fun b o h => hb1.cell (p := ⟨b, o, none⟩) h
      have hs1 := hb1.size
      cases hfv : factB g k
      · have hf2 := Lib.hid (rules_spec (a := (k : Int)) (hgr.mono (T := S) (w' := w1) (fun _ h _ => h) fun b _ hb => hb1.block b hb) hrl)
        go_wp2_with fail
        refine hf2.out.mono ?_
        rintro e w2 ⟨rfl, hb2⟩
        have hw : Below wr.heap.size wr w2 := hb1.trans (hb2.mono hs1)
        have hs2 := hw.size
        cases hrv : rulesB g k
        · have htv2 := Lib.hid (show truthOf g (k : Int) = 0 by rw [htv.out, hfv, hrv]; rfl)
          go_wp2_with (at_builtin; refine wpList_app_int rfl _ _ 24 rfl Try.underlying24 infoInt rfl hown rfl (y := 0) (hw.alloc hs2 _) ?_ ?_ ?_ ?_ ?_)
          any_goals (first | exact ⟨by omega, by omega⟩ | omega | (go_simp; done))
          intro ao cap w' hown' hkept
          have hb5 := hbel.trans (((hw.mono hsz).alloc (by omega) _).trans hkept.below)
          clear hown hkept
          go_wp2_with fail
          go_roundw
          case rel => exact ⟨k + 1, hlt, by go_num, by rw [hsn.out, htv2.out]; simpa using hown', hb5⟩
          case measure => simp [intOf]; omega
        · have htv2 := Lib.hid (show truthOf g (k : Int) = 1 by rw [htv.out, hfv, hrv]; rfl)
          go_wp2_with (at_builtin; refine wpList_app_int rfl _ _ 24 rfl Try.underlying24 infoInt rfl hown rfl (y := 1) (hw.alloc hs2 _) ?_ ?_ ?_ ?_ ?_)
          any_goals (first | exact ⟨by omega, by omega⟩ | omega | (go_simp; done))
          intro ao cap w' hown' hkept
          have hb5 := hbel.trans (((hw.mono hsz).alloc (by omega) _).trans hkept.below)
          clear hown hkept
          go_wp2_with fail
          go_roundw
          case rel => exact ⟨k + 1, hlt, by go_num, by rw [hsn.out, htv2.out]; simpa using hown', hb5⟩
          case measure => simp [intOf]; omega
      · have htv2 := Lib.hid (show truthOf g (k : Int) = 2 by rw [htv.out, hfv]; rfl)
        go_wp2_with (at_builtin; refine wpList_app_int rfl _ _ 24 rfl Try.underlying24 infoInt rfl hown rfl (y := 2) (hb1.alloc hs1 _) ?_ ?_ ?_ ?_ ?_)
        any_goals (first | exact ⟨by omega, by omega⟩ | omega | (go_simp; done))
        intro ao cap w' hown' hkept
        have hb5 := hbel.trans (((hb1.mono hsz).alloc (by omega) _).trans hkept.below)
        clear hown hkept
        go_wp2_with fail
        go_roundw
        case rel => exact ⟨k + 1, hlt, by go_num, by rw [hsn.out, htv2.out]; simpa using hown', hb5⟩
        case measure => simp [intOf]; omega
    · obtain rfl : k = n := by omega
      go_wp2_with fail
      go_ret
      refine ⟨_, rfl, hb0, ?_⟩
      rw [hfin.out]
      exact hown.seq (by rw [truthTo_len]; omega) fun b _ hb => hb.elim False.elim fun h => by omega

/-! ### Do -/
def doL (g : Prog) (s : Int × Int) : Prog × Bool :=
  if s.1 < 1 ∨ 5 < s.1 ∨ s.2 < 0 ∨ (g.rules.length : Int) ≤ s.2 then (g, false) else
  match g.rules[s.2.toNat]? with
  | none => (g, false)
  | some r =>
    let l := goneL g (followsL g) s.1 r
    if l.length = 0 then (g, false) else
    let all := g.rules.take s.2.toNat ++ g.rules.drop (s.2.toNat + 1)
    let more := if s.1 = 1 then [⟨r.head, r.pos, withoutL r.neg l⟩] else if s.1 = 3 then [⟨r.head, withoutL r.pos l, r.neg⟩] else []
    (⟨g.atoms, rulesL (all ++ more)⟩, true)

theorem doL_no {g : Prog} {s : Int × Int} (h : s.1 < 1 ∨ 5 < s.1 ∨ s.2 < 0 ∨ (g.rules.length : Int) ≤ s.2) : doL g s = (g, false) := by unfold doL; rw [if_pos h]
theorem doL_none {g : Prog} {s : Int × Int} (h : ¬ (s.1 < 1 ∨ 5 < s.1 ∨ s.2 < 0 ∨ (g.rules.length : Int) ≤ s.2)) {r : Rule} (hr : g.rules[s.2.toNat]? = some r) (hl : (goneL g (followsL g) s.1 r).length = 0) : doL g s = (g, false) := by
  unfold doL; rw [if_neg h, hr]; simp [hl]
theorem doL_some {g : Prog} {s : Int × Int} (h : ¬ (s.1 < 1 ∨ 5 < s.1 ∨ s.2 < 0 ∨ (g.rules.length : Int) ≤ s.2)) {r : Rule} (hr : g.rules[s.2.toNat]? = some r) (hl : ¬ (goneL g (followsL g) s.1 r).length = 0) :
    doL g s = (⟨g.atoms, rulesL ((g.rules.take s.2.toNat ++ g.rules.drop (s.2.toNat + 1)) ++ (if s.1 = 1 then [⟨r.head, r.pos, withoutL r.neg (goneL g (followsL g) s.1 r)⟩] else if s.1 = 3 then [⟨r.head, withoutL r.pos (goneL g (followsL g) s.1 r), r.neg⟩] else []))⟩, true) := by
  unfold doL; rw [if_neg h, hr]; simp only [if_neg hl]

set_option maxHeartbeats 800000 in
set_option maxRecDepth 100000 in
theorem DoR_no {S : Nat → Prop} {w : World} {v : Value} {g : Prog} {s : Int × Int} (hg : ProgV S w v g) (h : s.1 < 1 ∨ 5 < s.1 ∨ s.2 < 0 ∨ (g.rules.length : Int) ≤ s.2) :
    Calls Try.prog 15 #[v, .agg #[.int .i64 s.1, .int .i64 s.2]] w (RetV (.tuple #[v, .bool false]) w) := by
  obtain ⟨va, vb, rfl, ⟨aa, ac, rfl, -⟩, ⟨ra, rc, rfl, -⟩⟩ := hg
  obtain ⟨s1, s2⟩ := s
  simp only at h
  go_enter Try.func15, Try.ntmps15
  by_cases h1 : s1 < 1
  · go_wp2_with fail
    refine bodyPost_ret (v := .tuple #[.agg #[Value.slice aa g.atoms.length ac, Value.slice ra g.rules.length rc], .bool false]) (by simp [results, Try.results15, go_sem]) rfl ⟨rfl, ?_⟩
    exact Seq.way
  · by_cases h2 : 5 < s1
    · go_wp2_with fail
      refine bodyPost_ret (v := .tuple #[.agg #[Value.slice aa g.atoms.length ac, Value.slice ra g.rules.length rc], .bool false]) (by simp [results, Try.results15, go_sem]) rfl ⟨rfl, ?_⟩
      exact Seq.way
    · by_cases h3 : s2 < 0
      · go_wp2_with fail
        refine bodyPost_ret (v := .tuple #[.agg #[Value.slice aa g.atoms.length ac, Value.slice ra g.rules.length rc], .bool false]) (by simp [results, Try.results15, go_sem]) rfl ⟨rfl, ?_⟩
        exact Seq.way
      · have h4 : (g.rules.length : Int) ≤ s2 := by omega
        go_wp2_with fail
        refine bodyPost_ret (v := .tuple #[.agg #[Value.slice aa g.atoms.length ac, Value.slice ra g.rules.length rc], .bool false]) (by simp [results, Try.results15, go_sem]) rfl ⟨rfl, ?_⟩
        exact Seq.way

set_option maxHeartbeats 1600000 in
set_option maxRecDepth 100000 in
theorem DoR_yes {S : Nat → Prop} {w : World} {v : Value} {g : Prog} {s1 : Int} {k : Nat} (hg : ProgV S w v g) (hgood : GoodP g) (h1 : ¬ s1 < 1) (h2 : ¬ 5 < s1) (hk : k < g.rules.length) :
    Calls Try.prog 15 #[v, .agg #[.int .i64 s1, .int .i64 k]] w (Ret (fun o w' => ∃ p, o = .tuple #[p, .bool (doL g (s1, k)).2] ∧ ProgV (Fr S w) w' p (doL g (s1, k)).1) w) := by
  have hg' := hg
  obtain ⟨va, vb, rfl, hga, hgr⟩ := hg
  obtain ⟨aa, ac, rfl, -⟩ := id hga
  obtain ⟨ra, rc, rfl, hrc, hrm, hrl, hrn, hr⟩ := id hgr
  obtain ⟨b, off, pa, pc, na, nc, rfl, hS, hb, e0, e1, e2, hok, hp, hn⟩ := hr.rule hk
  have hgd := hgood.rules _ (List.getElem_mem hk)
  have hfs : ∀ (W : World), Below w.heap.size w W → Calls Try.prog 26 #[.agg #[Value.slice aa g.atoms.length ac, Value.slice (some ⟨b, off, none⟩) g.rules.length rc]] W (Ret (fun o w' => Seq boolE (fun b => W.heap.size ≤ b) w' o (followsL g)) W) := by
    intro W hW
    exact Follows_spec (hg'.mono (T := S) (w' := W) (fun _ h _ => h) fun b _ hb => hW.block b hb) hgood
  have hfs1 := Lib.hid hfs
  clear hfs hr
  have hb1 : b < w.heap.size + 1 := by omega
  have hb2 : b < w.heap.size + 1 + 1 := by omega
  have hb3 : b < w.heap.size + 1 + 1 + 1 := by omega
  have hkn : decide ((k : Int) < 0) = false := by simp
  have hk0 : (0 : Int) ≤ (k : Int) := by omega
  have hk1 : (k : Int) < (g.rules.length : Int) := by omega
  obtain ⟨f, hf⟩ : ∃ f, f = followsL g := ⟨_, rfl⟩
  have hfl : f.length = g.atoms.length := by rw [hf]; exact followsL_len
  have hgs : ∀ (W : World) (fa : Option Addr) (fc : Nat) (T : Nat → Prop), Below w.heap.size w W → Seq boolE T W (.slice fa f.length fc) f → Calls Try.prog 30 #[.agg #[Value.slice aa g.atoms.length ac, Value.slice (some ⟨b, off, none⟩) g.rules.length rc], .slice fa f.length fc, .int .i64 s1, .agg #[.int .i64 g.rules[k].head, .slice pa g.rules[k].pos.length pc, .slice na g.rules[k].neg.length nc]] W (Ret (fun o w' => Seq intE (fun b => W.heap.size ≤ b) w' o (goneL g f s1 g.rules[k])) W) := by
    intro W fa fc T hW hT
    exact gone_spec (S := fun _ => True) (hg'.mono (fun _ _ _ => trivial) fun b _ hb => hW.block b hb) (hT.mono (fun _ _ _ => trivial) fun _ _ _ => rfl) ⟨_, _, rfl, hok, hp.mono (fun _ _ _ => trivial) fun b _ hb => hW.block b hb, hn.mono (fun _ _ _ => trivial) fun b _ hb => hW.block b hb⟩ hgood.rlen hgd.plen hgd.nlen (fun _ x hx => by rw [hfl]; exact hgd.pos x hx)
  have hgs1 := Lib.hid hgs
  rw [← hf] at hfs1
  have hf' := Lib.hid hf
  have hfl' := Lib.hid hfl
  clear hf hfl hgs
  obtain ⟨W4, hW4⟩ : ∃ W4, W4 = (((w.alloc (.cells #[.slice aa g.atoms.length ac, .slice (some ⟨b, off, none⟩) g.rules.length rc] 30)).alloc (.cells #[.int .i64 s1, .int .i64 k] 23)).alloc (.cells #[.slice none 0 0, .slice none 0 0] 30)).alloc
    (.cells #[.int .i64 g.rules[k].head, .slice pa g.rules[k].pos.length pc, .slice na g.rules[k].neg.length nc] 46) := ⟨_, rfl⟩
  have HW := Lib.hid hW4
  have hB4 : Below w.heap.size w W4 := by rw [hW4]; exact Seq.way
  have hs4 : W4.heap.size = w.heap.size + 4 := by rw [hW4]; simp
  have q0 : W4.cell? ⟨w.heap.size, 0, none⟩ = some (.slice aa g.atoms.length ac) := by rw [hW4]; go_simp
  have q1 : W4.cell? ⟨w.heap.size, 1, none⟩ = some (.slice (some ⟨b, off, none⟩) g.rules.length rc) := by rw [hW4]; go_simp
  have q2 : W4.cell? ⟨w.heap.size + 1, 0, none⟩ = some (.int .i64 s1) := by rw [hW4]; go_simp
  have q3 : W4.cell? ⟨w.heap.size + 1, 1, none⟩ = some (.int .i64 k) := by rw [hW4]; go_simp
  have q4 : W4.cell? ⟨w.heap.size + 1 + 1 + 1, 0, none⟩ = some (.int .i64 g.rules[k].head) := by rw [hW4]; go_simp
  have q5 : W4.cell? ⟨w.heap.size + 1 + 1 + 1, 1, none⟩ = some (.slice pa g.rules[k].pos.length pc) := by rw [hW4]; go_simp
  have q6 : W4.cell? ⟨w.heap.size + 1 + 1 + 1, 2, none⟩ = some (.slice na g.rules[k].neg.length nc) := by rw [hW4]; go_simp
  have q7 : W4.cell? ⟨w.heap.size + 1 + 1, 0, none⟩ = some (.slice none 0 0) := by rw [hW4]; go_simp
  have q8 : W4.cell? ⟨w.heap.size + 1 + 1, 1, none⟩ = some (.slice none 0 0) := by rw [hW4]; go_simp
  have q9 : W4.frozen? ⟨w.heap.size + 1 + 1, 0, none⟩ = false := by rw [hW4]; go_simp
  have q10 : W4.frozen? ⟨w.heap.size + 1 + 1, 1, none⟩ = false := by rw [hW4]; go_simp
  clear hW4
  go_enter Try.func15, Try.ntmps15
  go_wp2_with fail
  rw [← HW.out]
  clear HW
  have hz0 : w.heap.size < W4.heap.size := by omega
  have hz1 : w.heap.size + 1 < W4.heap.size := by omega
  have hz2 : w.heap.size + 1 + 1 < W4.heap.size := by omega
  have hz3 : w.heap.size + 1 + 1 + 1 < W4.heap.size := by omega
  have hs4' := Lib.hid hs4
  clear hs4 hb1 hb2 hb3
  go_region_held3 (fun w' => w'.cell? ⟨w.heap.size, 0, none⟩ = some (.slice aa g.atoms.length ac) ∧ w'.cell? ⟨w.heap.size, 1, none⟩ = some (.slice (some ⟨b, off, none⟩) g.rules.length rc) ∧
      w'.cell? ⟨w.heap.size + 1, 0, none⟩ = some (.int .i64 s1) ∧ w'.cell? ⟨w.heap.size + 1 + 1 + 1, 0, none⟩ = some (.int .i64 g.rules[k].head) ∧ w'.cell? ⟨w.heap.size + 1 + 1 + 1, 1, none⟩ = some (.slice pa g.rules[k].pos.length pc) ∧ w'.cell? ⟨w.heap.size + 1 + 1 + 1, 2, none⟩ = some (.slice na g.rules[k].neg.length nc))
    (first
      | exact ⟨q0, q1, q2, q4, q5, q6⟩
      | exact ⟨(hc1 _ _ hz0).trans q0, (hc1 _ _ hz0).trans q1, (hc1 _ _ hz1).trans q2, (hc1 _ _ hz3).trans q4, (hc1 _ _ hz3).trans q5, (hc1 _ _ hz3).trans q6⟩
      | exact ⟨(hc2 _ _ (Nat.lt_of_lt_of_le hz0 hb1.size)).trans ((hc1 _ _ hz0).trans q0), (hc2 _ _ (Nat.lt_of_lt_of_le hz0 hb1.size)).trans ((hc1 _ _ hz0).trans q1), (hc2 _ _ (Nat.lt_of_lt_of_le hz1 hb1.size)).trans ((hc1 _ _ hz1).trans q2), (hc2 _ _ (Nat.lt_of_lt_of_le hz3 hb1.size)).trans ((hc1 _ _ hz3).trans q4), (hc2 _ _ (Nat.lt_of_lt_of_le hz3 hb1.size)).trans ((hc1 _ _ hz3).trans q5), (hc2 _ _ (Nat.lt_of_lt_of_le hz3 hb1.size)).trans ((hc1 _ _ hz3).trans q6)⟩)
    (first | (go_at_call 26; refine (hfs1.out _ hB4.drew).mono ?_; rintro e w1 ⟨vf, rfl, hb1, hvf⟩; have hc1 := fun b o h => hb1.cell (p := ⟨b, o, none⟩) h; obtain ⟨fa, fc, rfl, -⟩ := id hvf) | (go_at_call 30; refine (hgs1.out _ _ _ _ (hB4.drew.trans (hb1.mono hB4.size)) hvf).mono ?_; rintro e w2 ⟨vo, rfl, hb2, hvo⟩; have hc2 := fun b o h => hb2.cell (p := ⟨b, o, none⟩) h))
  obtain ⟨oa, oc, rfl, -⟩ := id hvo
  have hb12 : Below W4.heap.size W4 w2 := (Below.refl _ W4).drew.trans (hb1.trans (hb2.mono hb1.size))
  have hsz2 := hb12.size
  have r0 : w2.cell? ⟨w.heap.size, 0, none⟩ = _ := (hb12.cell (p := ⟨w.heap.size, 0, none⟩) hz0).trans q0
  have r1 : w2.cell? ⟨w.heap.size, 1, none⟩ = _ := (hb12.cell (p := ⟨w.heap.size, 1, none⟩) hz0).trans q1
  have r2 : w2.cell? ⟨w.heap.size + 1, 0, none⟩ = _ := (hb12.cell (p := ⟨w.heap.size + 1, 0, none⟩) hz1).trans q2
  have r3 : w2.cell? ⟨w.heap.size + 1, 1, none⟩ = _ := (hb12.cell (p := ⟨w.heap.size + 1, 1, none⟩) hz1).trans q3
  have r7 : w2.cell? ⟨w.heap.size + 1 + 1, 0, none⟩ = _ := (hb12.cell (p := ⟨w.heap.size + 1 + 1, 0, none⟩) hz2).trans q7
  have r8 : w2.cell? ⟨w.heap.size + 1 + 1, 1, none⟩ = _ := (hb12.cell (p := ⟨w.heap.size + 1 + 1, 1, none⟩) hz2).trans q8
  have r9 : w2.frozen? ⟨w.heap.size + 1 + 1, 0, none⟩ = _ := (hb12.frozen (p := ⟨w.heap.size + 1 + 1, 0, none⟩) hz2).trans q9
  have r10 : w2.frozen? ⟨w.heap.size + 1 + 1, 1, none⟩ = _ := (hb12.frozen (p := ⟨w.heap.size + 1 + 1, 1, none⟩) hz2).trans q10
  have hx0 : w.heap.size < w2.heap.size := by omega
  have hx1 : w.heap.size + 1 < w2.heap.size := by omega
  have hx2 : w.heap.size + 1 + 1 < w2.heap.size := by omega
  have hx3 : w.heap.size + 1 + 1 + 1 < w2.heap.size := by omega
  have hcond : ¬ ((s1, (k : Int)).1 < 1 ∨ 5 < (s1, (k : Int)).1 ∨ (s1, (k : Int)).2 < 0 ∨ (g.rules.length : Int) ≤ (s1, (k : Int)).2) := by simp only; omega
  have hdn := doL_none hcond (r := g.rules[k]) (by simp [hk])
  have hds := doL_some hcond (r := g.rules[k]) (by simp [hk])
  simp only [Int.toNat_natCast] at hds
  rw [← hf'.out] at hdn hds
  obtain ⟨l, hl⟩ : ∃ l, l = goneL g f s1 g.rules[k] := ⟨_, rfl⟩
  rw [← hl] at hdn hds hvo ⊢
  have hl' := Lib.hid hl
  have hll : l.length ≤ 1000000000 := by
    rw [hl]; exact Nat.le_trans (fltL_len _ _) (by unfold sideL; split; exact hgd.nlen; exact hgd.plen)
  clear hl hc1 hc2 hfs1 hgs1 hcond
  by_cases hl0 : l.length = 0
  · have hd := Lib.hid (hdn hl0)
    clear hdn hds
    have hl0' : ((l.length : Int) == 0) = true := beq_iff_eq.2 (by omega)
    go_wp2_with fail
    refine bodyPost_ret (v := .tuple #[.agg #[Value.slice aa g.atoms.length ac, Value.slice (some ⟨b, off, none⟩) g.rules.length rc], .bool false]) (by simp [results, Try.results15, go_sem, r7, r8]) rfl ⟨_, rfl, ?_, _, by rw [hd.out], ?_⟩
    · exact hB4.trans ((hb12.mono hB4.size).trans (Below.setCell (Below.setCell (Below.refl _ _) (by show w.heap.size ≤ w.heap.size + 1 + 1; omega) _) (by show w.heap.size ≤ w.heap.size + 1 + 1; omega) _))
    · rw [hd.out]
      refine hg'.mono (fun _ h _ => .inl h) fun b _ hb => ?_
      rw [Below.heap_setCell _ _ _ _ (by simp; omega), Below.heap_setCell _ _ _ _ (by simp; omega)]
      exact (hB4.trans (hb12.mono hB4.size)).block b hb
  · have hd := Lib.hid (hds hl0)
    clear hdn hds
    have hl0' : ((l.length : Int) == 0) = false := beq_eq_false_iff_ne.2 (by omega)
    have hrl := hgood.rlen
    obtain ⟨z1, hz1e⟩ : ∃ z1, z1 = g.rules.take k := ⟨_, rfl⟩
    obtain ⟨z2, hz2e⟩ : ∃ z2, z2 = z1 ++ g.rules.drop (k + 1) := ⟨_, rfl⟩
    have hlz1 : z1.length ≤ g.rules.length := by rw [hz1e, List.length_take]; omega
    have hlz2 : z2.length ≤ g.rules.length := by rw [hz2e, hz1e, List.length_append, List.length_take, List.length_drop]; omega
    have hz1' := Lib.hid hz1e
    have hz2' := Lib.hid hz2e
    clear hz1e hz2e
    have hwW2 : Below w.heap.size w w2 := hB4.trans (hb12.mono hB4.size)
    have hsw2 := hwW2.size
    have hrs : Seq ruleE (fun b => S b ∧ b < w.heap.size) w2 (.slice (some ⟨b, off, none⟩) g.rules.length rc) g.rules := hgr.bnd.below hwW2 fun _ h _ => h.2
    obtain ⟨T0, hT0⟩ : ∃ T0 : Nat → Prop, T0 = fun b => (S b ∧ b < w.heap.size) ∨ w2.heap.size ≤ b := ⟨_, rfl⟩
    have hT0' := Lib.hid hT0
    have hS1 : ∀ (wz wy : World) b, (S b ∧ b < w.heap.size) → b < wy.heap.size → T0 b ∧ (b < w2.heap.size ∨ wz.heap.size ≤ b) := fun _ _ b h _ => ⟨by rw [hT0]; exact .inl h, .inl (by omega)⟩
    clear hT0
    go_wp2_with (at_builtin; refine wpList_appL (E := ruleE) (S := T0) (base := w2.heap.size) rfl (.tmp 48) (.tmp 53) 22 rfl Try.underlying22 infoRule rfl rfl (Own.lit0 ?_ ?_ rfl) (Below.refl _ _) rfl ?_ (hS1 _ _) hz1'.out (by omega) ?_ ?_ ?_)
    any_goals (first | exact (hrs.take (Nat.le_of_lt hk)).below Seq.way fun _ h _ => by omega | omega | (simp; done))
    intro ao1 cap1 w5 hown5 hk5
    have hb5 : Below w2.heap.size w2 w5 := Below.trans Seq.way hk5.below
    have hb5' := Lib.hid hb5
    have hs5 := hb5.size
    have s0 : w5.cell? ⟨w.heap.size, 0, none⟩ = _ := (hb5.cell (p := ⟨w.heap.size, 0, none⟩) hx0).trans r0
    have s1' : w5.cell? ⟨w.heap.size, 1, none⟩ = _ := (hb5.cell (p := ⟨w.heap.size, 1, none⟩) hx0).trans r1
    have s2 : w5.cell? ⟨w.heap.size + 1, 0, none⟩ = _ := (hb5.cell (p := ⟨w.heap.size + 1, 0, none⟩) hx1).trans r2
    have s3 : w5.cell? ⟨w.heap.size + 1, 1, none⟩ = _ := (hb5.cell (p := ⟨w.heap.size + 1, 1, none⟩) hx1).trans r3
    clear hk5 hb5
    obtain ⟨bo, hbo⟩ : ∃ bo, bo = (if rc = k + 1 then (some ⟨b, off, none⟩ : Option Addr) else some ⟨b, off + (k + 1) * 3, none⟩) := ⟨_, rfl⟩
    have hif := hbo.symm
    have hdrop : Seq ruleE (fun b => S b ∧ b < w.heap.size) w5 (.slice bo (g.rules.length - (k + 1)) (rc - (k + 1))) (g.rules.drop (k + 1)) :=
      (hrs.drop (i := k + 1) (by omega) (by rw [hbo]; split <;> simp [Addr.add_lit, ruleE]) rfl rfl).below hb5'.out fun _ h _ => by omega
    clear hbo
    go_wp2_with (at_builtin; refine wpList_appL (E := ruleE) (S := T0) (base := w2.heap.size) rfl (.tmp 55) (.tmp 61) 22 rfl Try.underlying22 infoRule rfl rfl hown5 (Below.refl _ _) rfl hdrop (hS1 _ _) hz2'.out (by omega) ?_ ?_ ?_)
    any_goals (first | omega | (simp; done))
    intro ao2 cap2 w6 hown6 hk6
    have hb6 : Below w2.heap.size w2 w6 := hb5'.out.trans hk6.below
    have hs6 := hb6.size
    have s0 : w6.cell? ⟨w.heap.size, 0, none⟩ = _ := (hb6.cell (p := ⟨w.heap.size, 0, none⟩) hx0).trans r0
    have s2 : w6.cell? ⟨w.heap.size + 1, 0, none⟩ = _ := (hb6.cell (p := ⟨w.heap.size + 1, 0, none⟩) hx1).trans r2
    have hbW4 : Below W4.heap.size W4 w6 := hb12.trans (hb6.mono hsz2)
    have p4 : w6.cell? ⟨w.heap.size + 1 + 1 + 1, 0, none⟩ = _ := (hbW4.cell (p := ⟨w.heap.size + 1 + 1 + 1, 0, none⟩) hz3).trans q4
    have p5 : w6.cell? ⟨w.heap.size + 1 + 1 + 1, 1, none⟩ = _ := (hbW4.cell (p := ⟨w.heap.size + 1 + 1 + 1, 1, none⟩) hz3).trans q5
    have p6 : w6.cell? ⟨w.heap.size + 1 + 1 + 1, 2, none⟩ = _ := (hbW4.cell (p := ⟨w.heap.size + 1 + 1 + 1, 2, none⟩) hz3).trans q6
    have hv6 : w.heap.size < w6.heap.size := by omega
    have hv61 : w.heap.size + 1 < w6.heap.size := by omega
    have hv63 : w.heap.size + 1 + 1 + 1 < w6.heap.size := by omega
    have hb6' := Lib.hid hb6
    clear hk6 hb6 hown5 hdrop hif
    by_cases h11 : s1 = 1
    · skip
      have e1 : (s1 == 1) = true := by simp [h11]
      have e3 : (s1 == 3) = false := by rw [h11]; rfl
      have hwW6 : Below w.heap.size w w6 := hwW2.trans (hb6'.out.mono hsw2)
      have hsw6 := hwW6.size
      have hpx : ∀ W, Below w.heap.size w W → Seq intE (fun b => (S b ∧ b < w.heap.size) ∨ w6.heap.size ≤ b) W (.slice pa g.rules[k].pos.length pc) g.rules[k].pos := fun W hW => hp.bnd.mono (fun b h _ => .inl h) fun b h _ => hW.block b h.2
      have hnx : ∀ W, Below w.heap.size w W → Seq intE (fun b => (S b ∧ b < w.heap.size) ∨ w6.heap.size ≤ b) W (.slice na g.rules[k].neg.length nc) g.rules[k].neg := fun W hW => hn.bnd.mono (fun b h _ => .inl h) fun b h _ => hW.block b h.2
      have hlx := hvo.at hb6'.out
      have hSy : ∀ (wy : World) b, ((S b ∧ b < w.heap.size) ∨ w6.heap.size ≤ b) → b < wy.heap.size → T0 b ∧ (b < w2.heap.size ∨ w6.heap.size ≤ b) := by
        intro _ b h _
        rw [hT0'.out]
        rcases h with h | h
        · exact ⟨.inl h, .inl (by omega)⟩
        · exact ⟨.inr (by omega), .inr h⟩
      go_wp2_with fail
      go_region_held3 (fun w' => w'.cell? ⟨w.heap.size + 1 + 1 + 1, 0, none⟩ = some (.int .i64 g.rules[k].head) ∧ w'.cell? ⟨w.heap.size + 1 + 1 + 1, 1, none⟩ = some (.slice pa g.rules[k].pos.length pc) ∧ w'.cell? ⟨w.heap.size + 1 + 1 + 1, 2, none⟩ = some (.slice na g.rules[k].neg.length nc))
        (first | exact ⟨p4, p5, p6⟩ | exact ⟨y4, y5, y6⟩ | exact ⟨(World.cell?_alloc_lt _ _ _ hy63).trans y4, (World.cell?_alloc_lt _ _ _ hy63).trans y5, (World.cell?_alloc_lt _ _ _ hy63).trans y6⟩ | exact ⟨x4, x5, x6⟩)
        (first | (go_at_call 42; refine (without_spec (w := w6.drew) (v := .slice na g.rules[k].neg.length nc) (u := .slice oa l.length oc) (hnx _ hwW6.drew) (hlx.mono (fun _ h _ => h) fun _ _ _ => rfl) hgd.nlen).mono ?_; rintro e w7 ⟨vw, rfl, hb7, hvw⟩; obtain ⟨ya, yc, rfl, -⟩ := id hvw; have hs7 : w6.heap.size ≤ w7.heap.size := hb7.size; have hy63 : w.heap.size + 1 + 1 + 1 < w7.heap.size := (by omega); have y4 : w7.cell? ⟨w.heap.size + 1 + 1 + 1, 0, none⟩ = _ := (hb7.cell (p := ⟨w.heap.size + 1 + 1 + 1, 0, none⟩) hv63).trans p4; have y5 : w7.cell? ⟨w.heap.size + 1 + 1 + 1, 1, none⟩ = _ := (hb7.cell (p := ⟨w.heap.size + 1 + 1 + 1, 1, none⟩) hv63).trans p5; have y6 : w7.cell? ⟨w.heap.size + 1 + 1 + 1, 2, none⟩ = _ := (hb7.cell (p := ⟨w.heap.size + 1 + 1 + 1, 2, none⟩) hv63).trans p6) | (refine step_app_rule (S := T0) (base := w2.heap.size) (wm := w6) (y := ⟨g.rules[k].head, g.rules[k].pos, withoutL g.rules[k].neg l⟩) (Sy := fun b => (S b ∧ b < w.heap.size) ∨ w6.heap.size ≤ b) rfl _ _ 22 rfl Try.underlying22 infoRule rfl hown6 rfl (((Below.refl _ w6).drew.trans hb7).alloc hs7 _) hok (hpx _ ((hwW6.drew.trans (hb7.mono hsw6)).alloc (Nat.le_trans hsw6 hs7) _)) (hvw.mono (fun _ h _ => .inr h) fun b _ hlt => Below.heap_alloc _ _ _ hlt) (hSy _) ?_ ?_ ?_ ?_ hs6 ?_; (any_goals (first | (go_simp; done) | (omega; done))); intro ao8 cap8 w8 hown8 hk8; have hb68 : Below w2.heap.size w2 w8 := hb6'.out.trans ((((Below.refl _ w6).drew.trans (hb7.mono hs6)).alloc (Nat.le_trans hs6 hs7) _).trans hk8.below); have x4 : w8.cell? ⟨w.heap.size + 1 + 1 + 1, 0, none⟩ = _ := (hb68.cell (p := ⟨w.heap.size + 1 + 1 + 1, 0, none⟩) hx3).trans ((hb12.cell (p := ⟨w.heap.size + 1 + 1 + 1, 0, none⟩) hz3).trans q4); have x5 : w8.cell? ⟨w.heap.size + 1 + 1 + 1, 1, none⟩ = _ := (hb68.cell (p := ⟨w.heap.size + 1 + 1 + 1, 1, none⟩) hx3).trans ((hb12.cell (p := ⟨w.heap.size + 1 + 1 + 1, 1, none⟩) hz3).trans q5); have x6 : w8.cell? ⟨w.heap.size + 1 + 1 + 1, 2, none⟩ = _ := (hb68.cell (p := ⟨w.heap.size + 1 + 1 + 1, 2, none⟩) hx3).trans ((hb12.cell (p := ⟨w.heap.size + 1 + 1 + 1, 2, none⟩) hz3).trans q6)))
      obtain ⟨wF, hwF⟩ : ∃ wF, wF = w8 := ⟨_, rfl⟩
      subst hwF
      have hbF := hb68
      have hsF2 := hb68.size
      have hx4 : wF.cell? ⟨w.heap.size + 1, 0, none⟩ = _ := (hb68.cell (p := ⟨w.heap.size + 1, 0, none⟩) hx1).trans r2
      obtain ⟨zF, hzFe⟩ : ∃ zF, zF = z2 ++ [⟨g.rules[k].head, g.rules[k].pos, withoutL g.rules[k].neg l⟩] := ⟨_, rfl⟩
      have hzF := Lib.hid (show rulesL zF = rulesL (g.rules.take k ++ g.rules.drop (k + 1) ++ if s1 = 1 then [⟨g.rules[k].head, g.rules[k].pos, withoutL g.rules[k].neg l⟩] else if s1 = 3 then [⟨g.rules[k].head, withoutL g.rules[k].pos l, g.rules[k].neg⟩] else []) by rw [hzFe, hz2'.out, hz1'.out, if_pos h11])
      have hlzF : zF.length = z2.length + 1 := by rw [hzFe]; simp
      rw [← hzFe] at hown8
      have hlzF' : zF.length ≤ 1000000001 := by omega
      clear hlzF hzFe hk8 x4 x5 x6 y4 y5 y6 p4 p5 p6
      have hownF := hown8
      have hbF4 : Below W4.heap.size W4 wF := hb12.trans (hbF.mono hsz2)
      have fs := hbF.size
      have u0 : wF.cell? ⟨w.heap.size, 0, none⟩ = _ := (hbF4.cell (p := ⟨w.heap.size, 0, none⟩) hz0).trans q0
      have u7 : wF.cell? ⟨w.heap.size + 1 + 1, 0, none⟩ = _ := (hbF4.cell (p := ⟨w.heap.size + 1 + 1, 0, none⟩) hz2).trans q7
      have u8 : wF.cell? ⟨w.heap.size + 1 + 1, 1, none⟩ = _ := (hbF4.cell (p := ⟨w.heap.size + 1 + 1, 1, none⟩) hz2).trans q8
      have u9 : wF.frozen? ⟨w.heap.size + 1 + 1, 0, none⟩ = _ := (hbF4.frozen (p := ⟨w.heap.size + 1 + 1, 0, none⟩) hz2).trans q9
      have u10 : wF.frozen? ⟨w.heap.size + 1 + 1, 1, none⟩ = _ := (hbF4.frozen (p := ⟨w.heap.size + 1 + 1, 1, none⟩) hz2).trans q10
      have hy0 : w.heap.size < wF.heap.size := by omega
      have hy2 : w.heap.size + 1 + 1 < wF.heap.size := by omega
      have hseqF := Lib.hid (hownF.seq (T := T0) (by omega) (fun b _ h => h.elim id fun h => by rw [hT0'.out]; exact .inr h))
      clear hownF
      go_wp2_with fail
      go_region_held3 (fun w' => w'.cell? ⟨w.heap.size, 0, none⟩ = some (.slice aa g.atoms.length ac))
        (first | exact u0 | exact (hc9 _ _ hy0).trans u0 | exact t0 | (go_simp; done) | go_keep)
        ((go_at_call 25; refine (RulesL_spec (S := T0) (w := wF.drew) (hseqF.out.mono (fun _ h _ => h) fun _ _ _ => rfl) (Nat.le_trans hlzF' (by decide))).mono ?_; rintro e w9 ⟨vr, rfl, hb9, hvr⟩; obtain ⟨xa, xc, rfl, -⟩ := id hvr; have hc9 := fun b o h => hb9.cell (p := ⟨b, o, none⟩) h; have hz9 := fun b o h => hb9.frozen (p := ⟨b, o, none⟩) h; have hs9 : wF.heap.size ≤ w9.heap.size := hb9.size; have t0 : w9.cell? ⟨w.heap.size, 0, none⟩ = _ := (hc9 _ _ hy0).trans u0; have t7 : w9.cell? ⟨w.heap.size + 1 + 1, 0, none⟩ = _ := (hc9 _ _ hy2).trans u7; have t8 : w9.cell? ⟨w.heap.size + 1 + 1, 1, none⟩ = _ := (hc9 _ _ hy2).trans u8; have t9 : w9.frozen? ⟨w.heap.size + 1 + 1, 0, none⟩ = _ := (hz9 _ _ hy2).trans u9; have t10 : w9.frozen? ⟨w.heap.size + 1 + 1, 1, none⟩ = _ := (hz9 _ _ hy2).trans u10))
      have hb9' : Below wF.heap.size wF w9 := (Below.refl _ wF).drew.trans hb9
      have fs4 := hbF4.size
      go_wp2_with fail
      refine bodyPost_ret (v := .tuple #[.agg #[Value.slice aa g.atoms.length ac, Value.slice xa (rulesL zF).length xc], .bool true]) (by simp [results, Try.results15, go_sem, t7, t8]) rfl ⟨_, rfl, ?_, _, by rw [hd.out], ?_⟩
      · exact hB4.trans ((hbF4.mono hB4.size).trans (hb9'.mono (Nat.le_trans hB4.size fs4) |>.trans (Below.setCell (Below.setCell (Below.refl _ _) (by show w.heap.size ≤ w.heap.size + 1 + 1; omega) _) (by show w.heap.size ≤ w.heap.size + 1 + 1; omega) _)))
      · rw [hd.out]
        have hbw9 : Below w.heap.size w w9 := hB4.trans ((hbF4.mono hB4.size).trans (hb9'.mono (Nat.le_trans hB4.size fs4)))
        have hset : ∀ b, (b < w.heap.size ∨ w2.heap.size ≤ b) → ((w9.setCell ⟨w.heap.size + 1 + 1, 0, none⟩ (.slice aa g.atoms.length ac)).setCell ⟨w.heap.size + 1 + 1, 1, none⟩ (.slice xa (rulesL zF).length xc)).heap[b]? = w9.heap[b]? := by
          intro b hb
          rw [Below.heap_setCell _ _ _ _ (by simp; omega), Below.heap_setCell _ _ _ _ (by simp; omega)]
        refine ⟨_, _, rfl, ?_, ?_⟩
        · refine (hga.bnd.below hbw9 fun _ h _ => h.2).mono (fun b h _ => .inl h.1) fun b h _ => hset b (.inl h.2)
        · rw [← hzF.out]
          refine hvr.mono (fun b h _ => ?_) fun b h _ => hset b ?_
          · rcases h with h | h
            · rw [hT0'.out] at h
              rcases h with h | h
              · exact .inl h.1
              · exact .inr (by omega)
            · exact .inr (by have : wF.heap.size ≤ b := h; omega)
          · rcases h with h | h
            · rw [hT0'.out] at h
              rcases h with h | h
              · exact .inl h.2
              · exact .inr h
            · exact .inr (by have : wF.heap.size ≤ b := h; omega)
    · by_cases h13 : s1 = 3
      · skip
        have e1 : (s1 == 1) = false := by simp [h11]
        have e3 : (s1 == 3) = true := by simp [h13]
        have hwW6 : Below w.heap.size w w6 := hwW2.trans (hb6'.out.mono hsw2)
        have hsw6 := hwW6.size
        have hpx : ∀ W, Below w.heap.size w W → Seq intE (fun b => (S b ∧ b < w.heap.size) ∨ w6.heap.size ≤ b) W (.slice pa g.rules[k].pos.length pc) g.rules[k].pos := fun W hW => hp.bnd.mono (fun b h _ => .inl h) fun b h _ => hW.block b h.2
        have hnx : ∀ W, Below w.heap.size w W → Seq intE (fun b => (S b ∧ b < w.heap.size) ∨ w6.heap.size ≤ b) W (.slice na g.rules[k].neg.length nc) g.rules[k].neg := fun W hW => hn.bnd.mono (fun b h _ => .inl h) fun b h _ => hW.block b h.2
        have hlx := hvo.at hb6'.out
        have hSy : ∀ (wy : World) b, ((S b ∧ b < w.heap.size) ∨ w6.heap.size ≤ b) → b < wy.heap.size → T0 b ∧ (b < w2.heap.size ∨ w6.heap.size ≤ b) := by
          intro _ b h _
          rw [hT0'.out]
          rcases h with h | h
          · exact ⟨.inl h, .inl (by omega)⟩
          · exact ⟨.inr (by omega), .inr h⟩
        go_wp2_with fail
        go_region_held3 (fun w' => w'.cell? ⟨w.heap.size + 1 + 1 + 1, 0, none⟩ = some (.int .i64 g.rules[k].head) ∧ w'.cell? ⟨w.heap.size + 1 + 1 + 1, 1, none⟩ = some (.slice pa g.rules[k].pos.length pc) ∧ w'.cell? ⟨w.heap.size + 1 + 1 + 1, 2, none⟩ = some (.slice na g.rules[k].neg.length nc))
          (first | exact ⟨p4, p5, p6⟩ | exact ⟨y4, y5, y6⟩ | exact ⟨(World.cell?_alloc_lt _ _ _ hy63).trans y4, (World.cell?_alloc_lt _ _ _ hy63).trans y5, (World.cell?_alloc_lt _ _ _ hy63).trans y6⟩ | exact ⟨x4, x5, x6⟩)
          (first | (go_at_call 42; refine (without_spec (w := w6.drew) (v := .slice pa g.rules[k].pos.length pc) (u := .slice oa l.length oc) (hpx _ hwW6.drew) (hlx.mono (fun _ h _ => h) fun _ _ _ => rfl) hgd.plen).mono ?_; rintro e w7 ⟨vw, rfl, hb7, hvw⟩; obtain ⟨ya, yc, rfl, -⟩ := id hvw; have hs7 : w6.heap.size ≤ w7.heap.size := hb7.size; have hy63 : w.heap.size + 1 + 1 + 1 < w7.heap.size := (by omega); have y4 : w7.cell? ⟨w.heap.size + 1 + 1 + 1, 0, none⟩ = _ := (hb7.cell (p := ⟨w.heap.size + 1 + 1 + 1, 0, none⟩) hv63).trans p4; have y5 : w7.cell? ⟨w.heap.size + 1 + 1 + 1, 1, none⟩ = _ := (hb7.cell (p := ⟨w.heap.size + 1 + 1 + 1, 1, none⟩) hv63).trans p5; have y6 : w7.cell? ⟨w.heap.size + 1 + 1 + 1, 2, none⟩ = _ := (hb7.cell (p := ⟨w.heap.size + 1 + 1 + 1, 2, none⟩) hv63).trans p6) | (refine step_app_rule (S := T0) (base := w2.heap.size) (wm := w6) (y := ⟨g.rules[k].head, withoutL g.rules[k].pos l, g.rules[k].neg⟩) (Sy := fun b => (S b ∧ b < w.heap.size) ∨ w6.heap.size ≤ b) rfl _ _ 22 rfl Try.underlying22 infoRule rfl hown6 rfl (((Below.refl _ w6).drew.trans hb7).alloc hs7 _) hok (hvw.mono (fun _ h _ => .inr h) fun b _ hlt => Below.heap_alloc _ _ _ hlt) (hnx _ ((hwW6.drew.trans (hb7.mono hsw6)).alloc (Nat.le_trans hsw6 hs7) _)) (hSy _) ?_ ?_ ?_ ?_ hs6 ?_; (any_goals (first | (go_simp; done) | (omega; done))); intro ao8 cap8 w8 hown8 hk8; have hb68 : Below w2.heap.size w2 w8 := hb6'.out.trans ((((Below.refl _ w6).drew.trans (hb7.mono hs6)).alloc (Nat.le_trans hs6 hs7) _).trans hk8.below); have x4 : w8.cell? ⟨w.heap.size + 1 + 1 + 1, 0, none⟩ = _ := (hb68.cell (p := ⟨w.heap.size + 1 + 1 + 1, 0, none⟩) hx3).trans ((hb12.cell (p := ⟨w.heap.size + 1 + 1 + 1, 0, none⟩) hz3).trans q4); have x5 : w8.cell? ⟨w.heap.size + 1 + 1 + 1, 1, none⟩ = _ := (hb68.cell (p := ⟨w.heap.size + 1 + 1 + 1, 1, none⟩) hx3).trans ((hb12.cell (p := ⟨w.heap.size + 1 + 1 + 1, 1, none⟩) hz3).trans q5); have x6 : w8.cell? ⟨w.heap.size + 1 + 1 + 1, 2, none⟩ = _ := (hb68.cell (p := ⟨w.heap.size + 1 + 1 + 1, 2, none⟩) hx3).trans ((hb12.cell (p := ⟨w.heap.size + 1 + 1 + 1, 2, none⟩) hz3).trans q6)))
        obtain ⟨wF, hwF⟩ : ∃ wF, wF = w8 := ⟨_, rfl⟩
        subst hwF
        have hbF := hb68
        have hsF2 := hb68.size
        have hx4 : wF.cell? ⟨w.heap.size + 1, 0, none⟩ = _ := (hb68.cell (p := ⟨w.heap.size + 1, 0, none⟩) hx1).trans r2
        obtain ⟨zF, hzFe⟩ : ∃ zF, zF = z2 ++ [⟨g.rules[k].head, withoutL g.rules[k].pos l, g.rules[k].neg⟩] := ⟨_, rfl⟩
        have hzF := Lib.hid (show rulesL zF = rulesL (g.rules.take k ++ g.rules.drop (k + 1) ++ if s1 = 1 then [⟨g.rules[k].head, g.rules[k].pos, withoutL g.rules[k].neg l⟩] else if s1 = 3 then [⟨g.rules[k].head, withoutL g.rules[k].pos l, g.rules[k].neg⟩] else []) by rw [hzFe, hz2'.out, hz1'.out, if_neg h11, if_pos h13])
        have hlzF : zF.length = z2.length + 1 := by rw [hzFe]; simp
        rw [← hzFe] at hown8
        have hlzF' : zF.length ≤ 1000000001 := by omega
        clear hlzF hzFe hk8 x4 x5 x6 y4 y5 y6 p4 p5 p6
        have hownF := hown8
        have hbF4 : Below W4.heap.size W4 wF := hb12.trans (hbF.mono hsz2)
        have fs := hbF.size
        have u0 : wF.cell? ⟨w.heap.size, 0, none⟩ = _ := (hbF4.cell (p := ⟨w.heap.size, 0, none⟩) hz0).trans q0
        have u7 : wF.cell? ⟨w.heap.size + 1 + 1, 0, none⟩ = _ := (hbF4.cell (p := ⟨w.heap.size + 1 + 1, 0, none⟩) hz2).trans q7
        have u8 : wF.cell? ⟨w.heap.size + 1 + 1, 1, none⟩ = _ := (hbF4.cell (p := ⟨w.heap.size + 1 + 1, 1, none⟩) hz2).trans q8
        have u9 : wF.frozen? ⟨w.heap.size + 1 + 1, 0, none⟩ = _ := (hbF4.frozen (p := ⟨w.heap.size + 1 + 1, 0, none⟩) hz2).trans q9
        have u10 : wF.frozen? ⟨w.heap.size + 1 + 1, 1, none⟩ = _ := (hbF4.frozen (p := ⟨w.heap.size + 1 + 1, 1, none⟩) hz2).trans q10
        have hy0 : w.heap.size < wF.heap.size := by omega
        have hy2 : w.heap.size + 1 + 1 < wF.heap.size := by omega
        have hseqF := Lib.hid (hownF.seq (T := T0) (by omega) (fun b _ h => h.elim id fun h => by rw [hT0'.out]; exact .inr h))
        clear hownF
        go_wp2_with fail
        go_region_held3 (fun w' => w'.cell? ⟨w.heap.size, 0, none⟩ = some (.slice aa g.atoms.length ac))
          (first | exact u0 | exact (hc9 _ _ hy0).trans u0 | exact t0 | (go_simp; done) | go_keep)
          ((go_at_call 25; refine (RulesL_spec (S := T0) (w := wF.drew) (hseqF.out.mono (fun _ h _ => h) fun _ _ _ => rfl) (Nat.le_trans hlzF' (by decide))).mono ?_; rintro e w9 ⟨vr, rfl, hb9, hvr⟩; obtain ⟨xa, xc, rfl, -⟩ := id hvr; have hc9 := fun b o h => hb9.cell (p := ⟨b, o, none⟩) h; have hz9 := fun b o h => hb9.frozen (p := ⟨b, o, none⟩) h; have hs9 : wF.heap.size ≤ w9.heap.size := hb9.size; have t0 : w9.cell? ⟨w.heap.size, 0, none⟩ = _ := (hc9 _ _ hy0).trans u0; have t7 : w9.cell? ⟨w.heap.size + 1 + 1, 0, none⟩ = _ := (hc9 _ _ hy2).trans u7; have t8 : w9.cell? ⟨w.heap.size + 1 + 1, 1, none⟩ = _ := (hc9 _ _ hy2).trans u8; have t9 : w9.frozen? ⟨w.heap.size + 1 + 1, 0, none⟩ = _ := (hz9 _ _ hy2).trans u9; have t10 : w9.frozen? ⟨w.heap.size + 1 + 1, 1, none⟩ = _ := (hz9 _ _ hy2).trans u10))
        have hb9' : Below wF.heap.size wF w9 := (Below.refl _ wF).drew.trans hb9
        have fs4 := hbF4.size
        go_wp2_with fail
        refine bodyPost_ret (v := .tuple #[.agg #[Value.slice aa g.atoms.length ac, Value.slice xa (rulesL zF).length xc], .bool true]) (by simp [results, Try.results15, go_sem, t7, t8]) rfl ⟨_, rfl, ?_, _, by rw [hd.out], ?_⟩
        · exact hB4.trans ((hbF4.mono hB4.size).trans (hb9'.mono (Nat.le_trans hB4.size fs4) |>.trans (Below.setCell (Below.setCell (Below.refl _ _) (by show w.heap.size ≤ w.heap.size + 1 + 1; omega) _) (by show w.heap.size ≤ w.heap.size + 1 + 1; omega) _)))
        · rw [hd.out]
          have hbw9 : Below w.heap.size w w9 := hB4.trans ((hbF4.mono hB4.size).trans (hb9'.mono (Nat.le_trans hB4.size fs4)))
          have hset : ∀ b, (b < w.heap.size ∨ w2.heap.size ≤ b) → ((w9.setCell ⟨w.heap.size + 1 + 1, 0, none⟩ (.slice aa g.atoms.length ac)).setCell ⟨w.heap.size + 1 + 1, 1, none⟩ (.slice xa (rulesL zF).length xc)).heap[b]? = w9.heap[b]? := by
            intro b hb
            rw [Below.heap_setCell _ _ _ _ (by simp; omega), Below.heap_setCell _ _ _ _ (by simp; omega)]
          refine ⟨_, _, rfl, ?_, ?_⟩
          · refine (hga.bnd.below hbw9 fun _ h _ => h.2).mono (fun b h _ => .inl h.1) fun b h _ => hset b (.inl h.2)
          · rw [← hzF.out]
            refine hvr.mono (fun b h _ => ?_) fun b h _ => hset b ?_
            · rcases h with h | h
              · rw [hT0'.out] at h
                rcases h with h | h
                · exact .inl h.1
                · exact .inr (by omega)
              · exact .inr (by have : wF.heap.size ≤ b := h; omega)
            · rcases h with h | h
              · rw [hT0'.out] at h
                rcases h with h | h
                · exact .inl h.2
                · exact .inr h
              · exact .inr (by have : wF.heap.size ≤ b := h; omega)
      · skip
        obtain ⟨wF, hwF⟩ : ∃ wF, wF = w6 := ⟨_, rfl⟩
        subst hwF
        have hbF := hb6'.out
        obtain ⟨zF, hzFe⟩ : ∃ zF, zF = z2 := ⟨_, rfl⟩
        have hzF := Lib.hid (show rulesL zF = rulesL (g.rules.take k ++ g.rules.drop (k + 1) ++ if s1 = 1 then [⟨g.rules[k].head, g.rules[k].pos, withoutL g.rules[k].neg l⟩] else if s1 = 3 then [⟨g.rules[k].head, withoutL g.rules[k].pos l, g.rules[k].neg⟩] else []) by rw [hzFe, hz2'.out, hz1'.out, if_neg h11, if_neg h13, List.append_nil])
        have hlzF' : zF.length ≤ 1000000001 := by rw [hzFe]; omega
        subst hzFe
        have hownF := hown6
        have e1 : (s1 == 1) = false := by simp [h11]
        have e3 : (s1 == 3) = false := by simp [h13]
        have hbF4 : Below W4.heap.size W4 wF := hb12.trans (hbF.mono hsz2)
        have fs := hbF.size
        have u0 : wF.cell? ⟨w.heap.size, 0, none⟩ = _ := (hbF4.cell (p := ⟨w.heap.size, 0, none⟩) hz0).trans q0
        have u7 : wF.cell? ⟨w.heap.size + 1 + 1, 0, none⟩ = _ := (hbF4.cell (p := ⟨w.heap.size + 1 + 1, 0, none⟩) hz2).trans q7
        have u8 : wF.cell? ⟨w.heap.size + 1 + 1, 1, none⟩ = _ := (hbF4.cell (p := ⟨w.heap.size + 1 + 1, 1, none⟩) hz2).trans q8
        have u9 : wF.frozen? ⟨w.heap.size + 1 + 1, 0, none⟩ = _ := (hbF4.frozen (p := ⟨w.heap.size + 1 + 1, 0, none⟩) hz2).trans q9
        have u10 : wF.frozen? ⟨w.heap.size + 1 + 1, 1, none⟩ = _ := (hbF4.frozen (p := ⟨w.heap.size + 1 + 1, 1, none⟩) hz2).trans q10
        have hy0 : w.heap.size < wF.heap.size := by omega
        have hy2 : w.heap.size + 1 + 1 < wF.heap.size := by omega
        have hseqF := Lib.hid (hownF.seq (T := T0) (by omega) (fun b _ h => h.elim id fun h => by rw [hT0'.out]; exact .inr h))
        clear hownF
        go_wp2_with fail
        go_region_held3 (fun w' => w'.cell? ⟨w.heap.size, 0, none⟩ = some (.slice aa g.atoms.length ac))
          (first | exact u0 | exact (hc9 _ _ hy0).trans u0 | exact t0 | (go_simp; done) | go_keep)
          ((go_at_call 25; refine (RulesL_spec (S := T0) (w := wF.drew) (hseqF.out.mono (fun _ h _ => h) fun _ _ _ => rfl) (Nat.le_trans hlzF' (by decide))).mono ?_; rintro e w9 ⟨vr, rfl, hb9, hvr⟩; obtain ⟨xa, xc, rfl, -⟩ := id hvr; have hc9 := fun b o h => hb9.cell (p := ⟨b, o, none⟩) h; have hz9 := fun b o h => hb9.frozen (p := ⟨b, o, none⟩) h; have hs9 : wF.heap.size ≤ w9.heap.size := hb9.size; have t0 : w9.cell? ⟨w.heap.size, 0, none⟩ = _ := (hc9 _ _ hy0).trans u0; have t7 : w9.cell? ⟨w.heap.size + 1 + 1, 0, none⟩ = _ := (hc9 _ _ hy2).trans u7; have t8 : w9.cell? ⟨w.heap.size + 1 + 1, 1, none⟩ = _ := (hc9 _ _ hy2).trans u8; have t9 : w9.frozen? ⟨w.heap.size + 1 + 1, 0, none⟩ = _ := (hz9 _ _ hy2).trans u9; have t10 : w9.frozen? ⟨w.heap.size + 1 + 1, 1, none⟩ = _ := (hz9 _ _ hy2).trans u10))
        have hb9' : Below wF.heap.size wF w9 := (Below.refl _ wF).drew.trans hb9
        have fs4 := hbF4.size
        go_wp2_with fail
        refine bodyPost_ret (v := .tuple #[.agg #[Value.slice aa g.atoms.length ac, Value.slice xa (rulesL zF).length xc], .bool true]) (by simp [results, Try.results15, go_sem, t7, t8]) rfl ⟨_, rfl, ?_, _, by rw [hd.out], ?_⟩
        · exact hB4.trans ((hbF4.mono hB4.size).trans (hb9'.mono (Nat.le_trans hB4.size fs4) |>.trans (Below.setCell (Below.setCell (Below.refl _ _) (by show w.heap.size ≤ w.heap.size + 1 + 1; omega) _) (by show w.heap.size ≤ w.heap.size + 1 + 1; omega) _)))
        · rw [hd.out]
          have hbw9 : Below w.heap.size w w9 := hB4.trans ((hbF4.mono hB4.size).trans (hb9'.mono (Nat.le_trans hB4.size fs4)))
          have hset : ∀ b, (b < w.heap.size ∨ w2.heap.size ≤ b) → ((w9.setCell ⟨w.heap.size + 1 + 1, 0, none⟩ (.slice aa g.atoms.length ac)).setCell ⟨w.heap.size + 1 + 1, 1, none⟩ (.slice xa (rulesL zF).length xc)).heap[b]? = w9.heap[b]? := by
            intro b hb
            rw [Below.heap_setCell _ _ _ _ (by simp; omega), Below.heap_setCell _ _ _ _ (by simp; omega)]
          refine ⟨_, _, rfl, ?_, ?_⟩
          · refine (hga.bnd.below hbw9 fun _ h _ => h.2).mono (fun b h _ => .inl h.1) fun b h _ => hset b (.inl h.2)
          · rw [← hzF.out]
            refine hvr.mono (fun b h _ => ?_) fun b h _ => hset b ?_
            · rcases h with h | h
              · rw [hT0'.out] at h
                rcases h with h | h
                · exact .inl h.1
                · exact .inr (by omega)
              · exact .inr (by have : wF.heap.size ≤ b := h; omega)
            · rcases h with h | h
              · rw [hT0'.out] at h
                rcases h with h | h
                · exact .inl h.2
                · exact .inr h
              · exact .inr (by have : wF.heap.size ≤ b := h; omega)
end Go.Proofs.Ytdbennmbbmoflaa

#print axioms Go.Proofs.Ytdbennmbbmoflaa.DoR_yes
