/-
  Layer 16, the document: what an atom leans on (Leads).
-/
import Derived.Test.YtaedgpcmkagpeaaGreatGsG
import Derived.Test.YtaedgpcmkagpeaaGreatGsR
namespace Go.Proofs.YtaedgpcmkagpeaaGreat
open Go Go.RowKit

/-! ### Passes over the rules -/
def insA (l m : List Int) : List Int := m.foldl (fun s x => insC cmpZ x s) l
def passR (l : List Int) (r : Rule) : List Int := if r.head ∈ l then insA (insA l r.pos) r.neg else l
def passA (R : List Rule) (l : List Int) : List Int := R.foldl passR l
theorem insA_snoc {l m : List Int} {k : Nat} (hk : k < m.length) : insA l (m.take (k + 1)) = insC cmpZ m[k] (insA l (m.take k)) := by
  unfold insA; rw [List.take_succ_eq_append_getElem hk, List.foldl_append]; rfl
theorem passA_snoc {R : List Rule} {l : List Int} {k : Nat} (hk : k < R.length) : passA (R.take (k + 1)) l = passR (passA (R.take k) l) R[k] := by
  unfold passA; rw [List.take_succ_eq_append_getElem hk, List.foldl_append]; rfl
theorem insA_ok {l m : List Int} (h : Srt cmpZ l) : Srt cmpZ (insA l m) ∧ ∀ y, y ∈ insA l m ↔ y ∈ l ∨ y ∈ m := foldl_ins cmpZ_cmp m l h
theorem passR_ok {l : List Int} {r : Rule} (h : Srt cmpZ l) : Srt cmpZ (passR l r) ∧ ∀ y, y ∈ passR l r ↔ y ∈ l ∨ (r.head ∈ l ∧ (y ∈ r.pos ∨ y ∈ r.neg)) := by
  unfold passR
  split
  · rename_i hh
    obtain ⟨h1, h2⟩ := insA_ok (m := r.pos) h
    obtain ⟨h3, h4⟩ := insA_ok (m := r.neg) h1
    refine ⟨h3, fun y => ?_⟩
    rw [h4, h2]
    simp only [hh, true_and]
    rw [or_assoc]
  · rename_i hh
    exact ⟨h, fun y => by simp [hh]⟩
theorem passA_ok : ∀ {R : List Rule} {l : List Int}, Srt cmpZ l → Srt cmpZ (passA R l) ∧ ∀ y ∈ l, y ∈ passA R l
  | [], l, h => ⟨h, fun y hy => hy⟩
  | r :: R, l, h => by
    obtain ⟨h1, h2⟩ := passR_ok (r := r) h
    obtain ⟨h3, h4⟩ := passA_ok (R := R) h1
    exact ⟨h3, fun y hy => h4 y ((h2 y).2 (.inl hy))⟩
theorem srt_len {l m : List Int} (hl : Srt cmpZ l) (hm : Srt cmpZ m) (hs : ∀ x ∈ l, x ∈ m) (hle : m.length ≤ l.length) : l = m := by
  refine srt_ext cmpZ_cmp hl hm fun x => ⟨hs x, fun hx => ?_⟩
  by_cases h : x ∈ l
  · exact h
  · have hn : (x :: l).Nodup := List.nodup_cons.2 ⟨h, hl.nodup cmpZ_cmp⟩
    have := nodup_sub hn (m := m) fun y hy => by
      rcases List.mem_cons.1 hy with rfl | hy
      · exact hx
      · exact hs y hy
    simp at this; omega
/-- A pass that adds none. -/
theorem passA_fix : ∀ {R : List Rule} {l : List Int}, Srt cmpZ l → (passA R l).length ≤ l.length → ∀ r ∈ R, r.head ∈ l → (∀ x ∈ r.pos, x ∈ l) ∧ ∀ x ∈ r.neg, x ∈ l
  | [], _, _, _, r, hr, _ => by simp at hr
  | q :: R, l, h, hle, r, hr, hh => by
    obtain ⟨h1, h2⟩ := passR_ok (r := q) h
    obtain ⟨h3, h4⟩ := passA_ok (R := R) h1
    have e0 : l = passA R (passR l q) := srt_len h h3 (fun x hx => h4 x ((h2 x).2 (.inl hx))) hle
    have e1 : passR l q = l := by
      refine (srt_ext cmpZ_cmp h h1 fun x => ⟨fun hx => (h2 x).2 (.inl hx), fun hx => ?_⟩).symm
      rw [e0]; exact h4 x hx
    rcases List.mem_cons.1 hr with rfl | hr
    · exact ⟨fun x hx => by rw [← e1]; exact (h2 x).2 (.inr ⟨hh, .inl hx⟩), fun x hx => by rw [← e1]; exact (h2 x).2 (.inr ⟨hh, .inr hx⟩)⟩
    · refine passA_fix h ?_ r hr hh
      have hle' : (passA R (passR l q)).length ≤ l.length := hle
      rwa [e1] at hle'
/-- Some of what an atom leans on. -/
structure LeadI (g : Prog) (a : Nat) (l : List Int) : Prop where
  srt : Srt cmpZ l
  self : (a : Int) ∈ l
  sound : ∀ x ∈ l, 0 ≤ x ∧ x < g.atoms.length ∧ Rea (edgG g) a x.toNat
theorem LeadI.len {g : Prog} {a : Nat} {l : List Int} (h : LeadI g a l) : l.length ≤ g.atoms.length := by
  have := nodup_sub (h.srt.nodup cmpZ_cmp) (m := natsZ (List.range g.atoms.length)) fun x hx => by
    obtain ⟨h1, h2, -⟩ := h.sound x hx
    rw [mem_natsZ]
    unfold inLN
    rw [decide_eq_true_eq]
    exact ⟨List.mem_range.2 (by omega), h1⟩
  rw [natsZ_len, List.length_range] at this; exact this
theorem LeadI.pass {g : Prog} (hg : RightG g) {a : Nat} {l : List Int} (h : LeadI g a l) {r : Rule} (hr : r ∈ g.rules) : LeadI g a (passR l r) := by
  obtain ⟨h1, h2⟩ := passR_ok (r := r) h.srt
  refine ⟨h1, (h2 _).2 (.inl h.self), fun x hx => ?_⟩
  rcases (h2 x).1 hx with hx | ⟨hh, hx⟩
  · exact h.sound x hx
  · obtain ⟨q1, q2, q3⟩ := h.sound _ hh
    have hx2 : 0 ≤ x ∧ x < g.atoms.length := by
      rcases hx with hx | hx
      · exact (hg.pos r hr).1 x hx
      · exact (hg.neg r hr).1 x hx
    exact ⟨hx2.1, hx2.2, q3.step (mem_edg.2 ⟨r, hr, rfl, x, hx, rfl⟩)⟩
theorem LeadI.passTo {g : Prog} (hg : RightG g) {a : Nat} {l : List Int} (h : LeadI g a l) : ∀ k, k ≤ g.rules.length → LeadI g a (passA (g.rules.take k) l)
  | 0, _ => h
  | k + 1, hk => by rw [passA_snoc hk]; exact (h.passTo hg k (by omega)).pass hg (List.getElem_mem _)
theorem LeadI.start {g : Prog} {a : Nat} (ha : a < g.atoms.length) : LeadI g a [(a : Int)] :=
  ⟨List.pairwise_singleton _ _, by simp, fun x hx => by simp at hx; subst hx; exact ⟨by omega, by omega, by simpa using Rea.refl⟩⟩
theorem natsZ_srt {l : List Nat} (h : l.Pairwise (· < ·)) : Srt cmpZ (natsZ l) := by
  unfold natsZ Srt
  rw [List.pairwise_map]
  exact h.imp fun h => cmpZ_lt.2 (by omega)
theorem LeadI.fin {g : Prog} (hg : RightG g) {a : Nat} (ha : a < g.atoms.length) {l : List Int} (h : LeadI g a l) (hc : ∀ r ∈ g.rules, r.head ∈ l → (∀ x ∈ r.pos, x ∈ l) ∧ ∀ x ∈ r.neg, x ∈ l) : l = natsZ (leadsG g a) := by
  refine srt_ext cmpZ_cmp h.srt (natsZ_srt (leads_sub g a).srt) fun x => ?_
  rw [mem_natsZ]
  unfold inLN
  rw [decide_eq_true_eq, mem_leads hg ha]
  constructor
  · intro hx
    obtain ⟨h1, h2, h3⟩ := h.sound x hx
    exact ⟨h3, h1⟩
  · rintro ⟨h1, h2⟩
    have key : ∀ y, Rea (edgG g) a y → (y : Int) ∈ l := fun y hy => by
      induction hy with
      | refl => exact h.self
      | step _ he ih =>
        obtain ⟨r, hr, e1, z, hz, e2⟩ := mem_edg.1 he
        have hh := hg.head r hr
        have hz0 : 0 ≤ z := by
          rcases hz with hz | hz
          · exact ((hg.pos r hr).1 z hz).1
          · exact ((hg.neg r hr).1 z hz).1
        have e3 : r.head ∈ l := by
          have : r.head = ((r.head.toNat : Nat) : Int) := by omega
          rw [this, e1]; exact ih
        have := hc r hr e3
        rw [← e2, Int.toNat_of_nonneg hz0]
        rcases hz with hz | hz
        · exact this.1 z hz
        · exact this.2 z hz
    have := key _ h1
    rwa [Int.toNat_of_nonneg h2] at this

set_option maxHeartbeats 6400000 in
set_option maxRecDepth 100000 in
theorem LeadsR_spec {S : Nat → Prop} {w : World} {v : Value} {g : Prog} {a : Nat} (hg : ProgV S w v g) (hR : RightG g) (ha : a < g.atoms.length) (hn : g.atoms.length ≤ 100000) (hrl : g.rules.length ≤ 100000) :
    Calls Tryz.prog 66 #[v, .int .i64 a] w (Ret (fun o w' => Seq intE (fun b => w.heap.size ≤ b) w' o (natsZ (leadsG g a))) w) := by
  obtain ⟨va, vr, rfl, hA, hRv⟩ := hg
  have HRl := Lib.hid hRv
  have HG := Lib.hid hR
  have Ha := Lib.hid ha
  obtain ⟨ra, rc, rfl⟩ := hRv.shape
  obtain ⟨aa, ac, rfl⟩ := hA.shape
  obtain ⟨n, hne⟩ : ∃ n, n = g.atoms.length := ⟨_, rfl⟩
  have HNe := Lib.hid hne
  rw [← hne] at hn ha
  clear hA hRv hR hne
  obtain ⟨W, hW⟩ : ∃ W, W = w.alloc (.cells #[.slice aa g.atoms.length ac, .slice ra g.rules.length rc] 26) := ⟨_, rfl⟩
  have HB := Lib.hid (show Below w.heap.size w W by rw [hW]; exact Seq.way)
  have hzW := Lib.hid (show W.heap.size = w.heap.size + 1 by rw [hW]; simp)
  have HP := Lib.hid (show Row 26 W w.heap.size [.slice aa g.atoms.length ac, .slice ra g.rules.length rc] by rw [hW]; exact Row.new w [_, _] _ rfl)
  have HW := Lib.hid hW
  have iok : IntOK (a : Int) := ⟨by omega, by omega⟩
  clear hW
  go_enter Tryz.func66, Tryz.ntmps66
  go_wp2_with fail
  rw [← HW.out]
  have hs0 := Lib.hid (show Seq intE (fun b => w.heap.size ≤ b) (W.alloc (.cells #[.int .i64 a] 3)) (.slice (some ⟨w.heap.size + 1, 0, none⟩) 1 1) [(a : Int)] by
    refine Row.seq (T := 3) (vs := [.int .i64 a]) (Row.new W [_] _ hzW.out.symm) rfl (Nat.le_refl _) (by simp [maxLen]) (by simp) (by omega) ?_
    intro k x hx
    obtain rfl : k = 0 := by have := (List.getElem?_eq_some_iff.1 hx).1; simp at this; omega
    simp at hx; subst hx
    exact ⟨[.int .i64 a], ⟨rfl, iok⟩, fun j hj => by obtain rfl : j = 0 := (by have : j < 1 := hj; omega); rfl⟩)
  go_loopw [5, 6] (fun o m wr => ∃ (l : List Int) (k : Nat), m = .int .i64 k ∧ k ≤ l.length ∧ Hid (LeadI g a l) ∧ Hid (k = l.length → ∀ r ∈ g.rules, r.head ∈ l → (∀ x ∈ r.pos, x ∈ l) ∧ ∀ x ∈ r.neg, x ∈ l) ∧ Hid (Seq intE (fun b => w.heap.size ≤ b) wr o l) ∧ Hid (Below W.heap.size W wr)) (fun _ m _ => n + 1 - (intOf m).toNat)
  case atStart =>
    exact ⟨[(a : Int)], 0, rfl, Nat.zero_le _, Lib.hid (LeadI.start Ha.out), Lib.hid (fun h => absurd h (by simp)), hs0, Lib.hid Seq.way⟩
  case round =>
    obtain ⟨l, m, rfl, hm, hI, hcl, hO, hbr⟩ := hrel
    have hbw := Lib.hid (below_step hbr.out HB.out)
    have HPr := Lib.hid (rowTo HP.out hbr.out)
    have hln := hI.out.len
    rw [← HNe.out] at hln
    obtain ⟨oa, oc, rfl⟩ := hO.out.shape
    by_cases hml : m < l.length
    · have hmI : (m : Int) < (l.length : Int) := by omega
      obtain ⟨wz, rfl⟩ : ∃ wz, wz = wr := ⟨_, rfl⟩
      clear hs0 hcl
      go_wp2_with fail
      go_loopw [5, 7] (fun o i wr => ∃ k : Nat, i = .int .i64 k ∧ k ≤ g.rules.length ∧ Hid (Seq intE (fun b => w.heap.size ≤ b) wr o (passA (g.rules.take k) l)) ∧ Hid (Below wz.heap.size wz wr)) (fun _ i _ => g.rules.length - (intOf i).toNat)
      case atStart => exact ⟨0, rfl, Nat.zero_le _, hO, Lib.hid (Below.refl _ _)⟩
      case round =>
        obtain ⟨k, rfl, hk, hO2, hb2⟩ := hrel
        have hbw2 := Lib.hid (below_step hb2.out hbw.out)
        have HP2 := Lib.hid (rowTo HPr.out hb2.out)
        have d1 := HP2.out.cell (j := 1) (by simp)
        simp only [List.getElem_cons_zero, List.getElem_cons_succ] at d1
        have hIk := Lib.hid (hI.out.passTo HG.out k hk)
        have hlnk := hIk.out.len
        rw [← HNe.out] at hlnk
        by_cases hlt : k < g.rules.length
        · obtain ⟨_, _, ee, -, -, -, -, x5⟩ := (HRl.out.at hbw2.out)
          simp only [Value.slice.injEq, true_and] at ee
          obtain ⟨rfl, rfl⟩ := ee
          obtain ⟨b, off, pa, pc, na, nc, rfl, -, hb, hc0, hc1, hc2, hiok, hX, hY⟩ := x5.rule hlt
          have HX := Lib.hid hX
          have HY := Lib.hid hY
          have hst := Lib.hid (passA_snoc (l := l) hlt)
          have hIs := Lib.hid (hIk.out.pass HG.out (List.getElem_mem hlt))
          have hkl : (k : Int) < (g.rules.length : Int) := by omega
          have hk0 : (0 : Int) ≤ (k : Int) := by omega
          have hrok := Lib.hid (show (∀ x ∈ g.rules[k].pos, IntOK x) ∧ ∀ x ∈ g.rules[k].neg, IntOK x from ⟨fun x hx => by have := (HG.out.pos _ (List.getElem_mem hlt)).1 x hx; have := HNe.out; exact ⟨by omega, by omega⟩, fun x hx => by have := (HG.out.neg _ (List.getElem_mem hlt)).1 x hx; have := HNe.out; exact ⟨by omega, by omega⟩⟩)
          have hpl : g.rules[k].pos.length ≤ 140737488355328 := by obtain ⟨_, _, _, _, _, h, _⟩ := hX; exact h
          have hnl : g.rules[k].neg.length ≤ 140737488355328 := by obtain ⟨_, _, _, _, _, h, _⟩ := hY; exact h
          obtain ⟨r, hr⟩ : ∃ r, r = g.rules[k] := ⟨_, rfl⟩
          rw [← hr] at hc0 hc1 hc2 HX HY hst hIs hrok hpl hnl
          obtain ⟨L, hL⟩ : ∃ L, L = passA (g.rules.take k) l := ⟨_, rfl⟩
          rw [← hL] at hO2 hst hIk hIs hlnk
          obtain ⟨wy, rfl⟩ : ∃ wy, wy = wr := ⟨_, rfl⟩
          obtain ⟨W1, hW1⟩ : ∃ W1, W1 = wy.alloc (.cells #[.int .i64 r.head, .slice pa r.pos.length pc, .slice na r.neg.length nc] 46) := ⟨_, rfl⟩
          have B1 := Lib.hid (show Below wy.heap.size wy W1 by rw [hW1]; exact Seq.way)
          have HQ := Lib.hid (show Row 46 W1 wy.heap.size [.int .i64 r.head, .slice pa r.pos.length pc, .slice na r.neg.length nc] by rw [hW1]; exact Row.new wy [_, _, _] _ rfl)
          have HW1 := Lib.hid hW1
          obtain ⟨oa2, oc2, rfl⟩ := hO2.out.shape
          clear hX hY hr x5 hL hW1
          go_upto_region 9 with fail
          rw [← HW1.out]
          have f0 := HQ.out.cell (j := 0) (by simp)
          simp only [List.getElem_cons_zero] at f0
          go_wp2_with fail
          refine (InT_spec (hO2.out.at B1.out)).mono ?_
          rintro e _ ⟨rfl, rfl⟩
          by_cases hin : r.head ∈ L
          · rw [decide_eq_true hin]
            have hpr := Lib.hid (show passR L r = insA (insA L r.pos) r.neg by unfold passR; rw [if_pos hin])
            have hOW := Lib.hid (hO2.out.at B1.out)
            have hsrt := Lib.hid (hIk.out.srt)
            clear hin f0
            have f1 := HQ.out.cell (j := 1) (by simp)
            simp only [List.getElem_cons_zero, List.getElem_cons_succ] at f1
            have hlb : ∀ {M : List Int}, Hid (∀ x ∈ M, x ∈ passR L r) → Srt cmpZ M → M.length ≤ 100000 := fun {M} hM hs => by
              have h1 := nodup_sub (hs.nodup cmpZ_cmp) hM.out
              have h2 := hIs.out.len
              have := HNe.out
              omega
            have Hlb := fun {M : List Int} a b => Lib.hid (hlb (M := M) a b)
            clear hlb
            go_wp2_with fail
            go_loopw [5, 9] (fun o i wr => ∃ j : Nat, i = .int .i64 j ∧ j ≤ r.pos.length ∧ Hid (Seq intE (fun b => w.heap.size ≤ b) wr o (insA L (r.pos.take j))) ∧ Hid (Below W1.heap.size W1 wr)) (fun _ i _ => r.pos.length - (intOf i).toNat)
            case atStart => exact ⟨0, rfl, Nat.zero_le _, hOW, Lib.hid (Below.refl _ _)⟩
            case round =>
              obtain ⟨j, rfl, hj, hO3, hb3⟩ := hrel
              have HQ3 := Lib.hid (rowTo HQ.out hb3.out)
              clear f1
              have f1 := HQ3.out.cell (j := 1) (by simp)
              simp only [List.getElem_cons_zero, List.getElem_cons_succ] at f1
              have BY := Lib.hid (below_step hb3.out B1.out)
              obtain ⟨oa3, oc3, rfl⟩ := hO3.out.shape
              by_cases hjl : j < r.pos.length
              · obtain ⟨_, _, ee, -, -, -, -, y5⟩ := (HX.out.at BY.out)
                simp only [Value.slice.injEq, true_and] at ee
                obtain ⟨rfl, rfl⟩ := ee
                obtain ⟨b4, off4, rfl, -, hb4, hc4, -⟩ := y5.int hjl
                have hxk := hrok.out.1 _ (List.getElem_mem hjl)
                have hsn := Lib.hid (insA_snoc (l := L) hjl)
                have hlen := (Hlb (M := insA L (r.pos.take j)) (Lib.hid (fun x hx => by
                  rw [hpr.out]
                  have h1 := (insA_ok (m := r.pos) hsrt.out)
                  refine ((insA_ok (m := r.neg) h1.1).2 x).2 (.inl ((h1.2 x).2 ?_))
                  exact (((insA_ok (m := r.pos.take j) hsrt.out).2 x).1 hx).imp id fun h => List.mem_of_mem_take h)) (insA_ok hsrt.out).1).out
                obtain ⟨q, hq⟩ : ∃ q, q = r.pos[j] := ⟨_, rfl⟩
                rw [← hq] at hc4 hxk hsn
                obtain ⟨M, hM⟩ : ∃ M, M = insA L (r.pos.take j) := ⟨_, rfl⟩
                rw [← hM] at hO3 hsn hlen ⊢
                have hjI : (j : Int) < (r.pos.length : Int) := by omega
                have hj0 : (0 : Int) ≤ (j : Int) := by omega
                clear hq hM y5
                go_wp2_with fail
                refine (PutZ_spec hO3.out hxk (by omega)).mono ?_
                rintro e w4 ⟨v4, rfl, hb4', hs4⟩
                have HS4 := Lib.hid hs4
                obtain ⟨va4, vc4, rfl⟩ := hs4.shape
                have B4 := Lib.hid (below_step hb4' hb3.out)
                have hzz := Lib.hid (show w.heap.size ≤ wr.heap.size from Nat.le_trans hbw2.out.size BY.out.size)
                clear hs4 hb4'
                go_wp2_with fail
                go_roundw
                case rel => exact ⟨j + 1, by go_num, hjl, Lib.hid (by rw [hsn.out]; exact HS4.out.mono (fun b h _ => h.elim id fun h => Nat.le_trans hzz.out h) fun _ _ _ => rfl), B4⟩
                case measure => simp [intOf]; omega
              · obtain rfl : j = r.pos.length := by omega
                have hO4 := Lib.hid (show Seq intE (fun b => w.heap.size ≤ b) wr _ (insA L r.pos) by have := hO3.out; rwa [List.take_length] at this)
                have hjI : ¬ (r.pos.length : Int) < (r.pos.length : Int) := by omega
                rw [List.take_length] at hO3 ⊢
                obtain ⟨M, hM⟩ : ∃ M, M = insA L r.pos := ⟨_, rfl⟩
                have hsrt2 := Lib.hid (show Srt cmpZ M by rw [hM]; exact (insA_ok hsrt.out).1)
                rw [← hM] at hO4 hO3 hpr ⊢
                have f2 := HQ3.out.cell (j := 2) (by simp)
                simp only [List.getElem_cons_zero, List.getElem_cons_succ] at f2
                obtain ⟨wx, rfl⟩ : ∃ wx, wx = wr := ⟨_, rfl⟩
                clear hM hjl hO3
                go_wp2_with fail
                go_loopw [5, 10] (fun o i wr => ∃ j : Nat, i = .int .i64 j ∧ j ≤ r.neg.length ∧ Hid (Seq intE (fun b => w.heap.size ≤ b) wr o (insA M (r.neg.take j))) ∧ Hid (Below wx.heap.size wx wr)) (fun _ i _ => r.neg.length - (intOf i).toNat)
                case atStart => exact ⟨0, rfl, Nat.zero_le _, hO4, Lib.hid (Below.refl _ _)⟩
                case round =>
                  obtain ⟨j, rfl, hj, hO5, hb5⟩ := hrel
                  have HQ5 := Lib.hid (rowTo HQ3.out hb5.out)
                  clear f2
                  have f2 := HQ5.out.cell (j := 2) (by simp)
                  simp only [List.getElem_cons_zero, List.getElem_cons_succ] at f2
                  have BY5 := Lib.hid (below_step hb5.out BY.out)
                  obtain ⟨oa5, oc5, rfl⟩ := hO5.out.shape
                  by_cases hjl : j < r.neg.length
                  · obtain ⟨_, _, ee, -, -, -, -, y5⟩ := (HY.out.at BY5.out)
                    simp only [Value.slice.injEq, true_and] at ee
                    obtain ⟨rfl, rfl⟩ := ee
                    obtain ⟨b4, off4, rfl, -, hb4, hc4, -⟩ := y5.int hjl
                    have hxk := hrok.out.2 _ (List.getElem_mem hjl)
                    have hsn := Lib.hid (insA_snoc (l := M) hjl)
                    have hlen := (Hlb (M := insA M (r.neg.take j)) (Lib.hid (fun x hx => by
                      rw [hpr.out]
                      exact ((insA_ok (m := r.neg) hsrt2.out).2 x).2 ((((insA_ok (m := r.neg.take j) hsrt2.out).2 x).1 hx).imp id fun h => List.mem_of_mem_take h))) (insA_ok hsrt2.out).1).out
                    obtain ⟨q, hq⟩ : ∃ q, q = r.neg[j] := ⟨_, rfl⟩
                    rw [← hq] at hc4 hxk hsn
                    obtain ⟨M2, hM2⟩ : ∃ M2, M2 = insA M (r.neg.take j) := ⟨_, rfl⟩
                    rw [← hM2] at hO5 hsn hlen ⊢
                    have hjI : (j : Int) < (r.neg.length : Int) := by omega
                    have hj0 : (0 : Int) ≤ (j : Int) := by omega
                    clear hq hM2 y5
                    go_wp2_with fail
                    refine (PutZ_spec hO5.out hxk (by omega)).mono ?_
                    rintro e w4 ⟨v4, rfl, hb4', hs4⟩
                    have HS4 := Lib.hid hs4
                    obtain ⟨va4, vc4, rfl⟩ := hs4.shape
                    have B4 := Lib.hid (below_step hb4' hb5.out)
                    have hzz := Lib.hid (show w.heap.size ≤ wr.heap.size from Nat.le_trans hbw2.out.size BY5.out.size)
                    clear hs4 hb4'
                    go_wp2_with fail
                    go_roundw
                    case rel => exact ⟨j + 1, by go_num, hjl, Lib.hid (by rw [hsn.out]; exact HS4.out.mono (fun b h _ => h.elim id fun h => Nat.le_trans hzz.out h) fun _ _ _ => rfl), B4⟩
                    case measure => simp [intOf]; omega
                  · obtain rfl : j = r.neg.length := by omega
                    have hO6 := Lib.hid (show Seq intE (fun b => w.heap.size ≤ b) wr _ (insA M r.neg) by have := hO5.out; rwa [List.take_length] at this)
                    have hjI : ¬ (r.neg.length : Int) < (r.neg.length : Int) := by omega
                    rw [List.take_length] at hO5 ⊢
                    clear hjl hO5
                    go_wp2_with fail
                    go_roundw
                    case rel => exact ⟨k + 1, by go_num, hlt, Lib.hid (by rw [hst.out, hpr.out]; exact hO6.out), Lib.hid (below_step BY5.out hb2.out)⟩
                    case measure => simp [intOf]; omega
          · rw [decide_eq_false hin]
            have hpr := Lib.hid (show passR L r = L by unfold passR; rw [if_neg hin])
            have hOW := Lib.hid (hO2.out.at B1.out)
            clear hin f0
            go_wp2_with fail
            go_roundw
            case rel => exact ⟨k + 1, by go_num, hlt, Lib.hid (by rw [hst.out, hpr.out]; exact hOW.out), Lib.hid (below_step B1.out hb2.out)⟩
            case measure => simp [intOf]; omega
        · obtain rfl : k = g.rules.length := by omega
          have hkl : ¬ (g.rules.length : Int) < (g.rules.length : Int) := by omega
          rw [List.take_length] at hO2 hIk hlnk
          obtain ⟨L, hL⟩ : ∃ L, L = passA g.rules l := ⟨_, rfl⟩
          have hge := nodup_sub (hI.out.srt.nodup cmpZ_cmp) (passA_ok (R := g.rules) hI.out.srt).2
          have hfx := Lib.hid (show l.length = L.length → ∀ r ∈ g.rules, r.head ∈ L → (∀ x ∈ r.pos, x ∈ L) ∧ ∀ x ∈ r.neg, x ∈ L from fun e => by
            have h1 := passA_fix (R := g.rules) hI.out.srt (by rw [← hL]; omega)
            have h2 : l = L := by rw [hL]; exact srt_len hI.out.srt (passA_ok hI.out.srt).1 (passA_ok hI.out.srt).2 (by rw [← hL]; omega)
            rw [← h2]; exact h1)
          rw [← hL] at hO2 hIk hlnk hge
          obtain ⟨oa2, oc2, rfl⟩ := hO2.out.shape
          clear hL
          go_wp2_with fail
          go_roundw
          case rel => exact ⟨L, l.length, rfl, hge, hIk, hfx, hO2, Lib.hid (below_step hb2.out hbr.out)⟩
          case measure => simp [intOf]; omega
    · have hres := Lib.hid (hI.out.fin HG.out Ha.out (hcl.out (by omega)))
      have hmI : ¬ (m : Int) < (l.length : Int) := by omega
      go_wp2_with fail
      go_ret
      exact ⟨_, rfl, hbw.out, by rw [← hres.out]; exact hO.out⟩
end Go.Proofs.YtaedgpcmkagpeaaGreat
