/-
  Layer 18, the program: Do, where it can be done.
-/
import Derived.Test.YtdbennmbbmoflaaPrK
import Derived.Deep.Cut
import Derived.Deep.CutRange
import Derived.Deep.DeepCutAuto
import Derived.Outline
import Derived.Test.YtdbennmbbmoflaaPrLk
namespace Go.Proofs.Ytdbennmbbmoflaa
open Go Go.RowKit

/-- What Do makes of the rules, one by one. -/
theorem rulesL_snoc1 {l : List Rule} (h : SortR l) (x : Rule) : rulesL (l ++ [x]) = insR l x := by
  unfold rulesL
  rw [List.foldl_append]
  show insR (l.foldl insR []) x = insR l x
  rw [show l.foldl insR [] = l from rulesL_id h]
theorem insR_search {l : List Rule} (h : SortR l) (x : Rule) : insR l x = if x ∈ l then l else l.take (insAt x l) ++ [x] ++ l.drop (insAt x l) := by
  rcases insR_cases l x with ⟨h1, h2⟩ | ⟨h1, h2⟩
  · rw [h1, if_pos h2]
  · rw [h1]
    by_cases hm : x ∈ l
    · obtain ⟨h3, h4⟩ := (mem_insAt h).1 hm
      have := h2 _ (List.getElem?_eq_getElem h3)
      omega
    · rw [if_neg hm]
theorem sort_cut {l : List Rule} (h : SortR l) (k : Nat) : SortR (l.take k ++ l.drop (k + 1)) := by
  refine h.sublist ?_
  rcases Nat.lt_or_ge k l.length with hk | hk
  · conv => rhs; rw [← List.take_append_drop k l, List.drop_eq_getElem_cons hk]
    exact (List.sublist_cons_self _ _).append_left _
  · rw [List.drop_eq_nil_of_le (by omega), List.append_nil]; exact List.take_sublist _ _
theorem stay_without (g : Prog) (f : List Bool) (kind : Int) (r : Rule) : stayL (isGone g f kind) (sideL kind r) (sideL kind r).length = withoutL (sideL kind r) (goneL g f kind r) := by
  unfold stayL withoutL
  rw [List.take_length]
  refine List.filter_congr fun x hx => ?_
  congr 1
  rw [Bool.eq_iff_iff]
  unfold inB
  rw [List.contains_iff_mem, goneL_mem]
  exact ⟨fun h => ⟨hx, h⟩, fun h => h.2⟩
/-- The rule that stays, if one does. -/
def leftR (j : Nat) (r : Rule) (l : List Int) : Rule := if j = 0 then ⟨r.head, r.pos, withoutL r.neg l⟩ else ⟨r.head, withoutL r.pos l, r.neg⟩
theorem doL_goes {g : Prog} {j k : Nat} (hj : j < 5) (hk : k < g.rules.length) (hs : SortR g.rules) (h : 0 < (goneL g (followsL g) ((j : Int) + 1) g.rules[k]).length) (hg : kGoes j = true) :
    doL g ((j : Int) + 1, (k : Int)) = (⟨g.atoms, g.rules.take k ++ g.rules.drop (k + 1)⟩, true) := by
  rw [doL_can hj hk h]
  have : j = 1 ∨ j = 3 ∨ j = 4 := by simpa [kGoes] using hg
  have hm : moreL ((j : Int) + 1) g.rules[k] (goneL g (followsL g) ((j : Int) + 1) g.rules[k]) = [] := by
    unfold moreL; rw [if_neg (by omega), if_neg (by omega)]
  rw [hm, List.append_nil, rulesL_id (sort_cut hs k)]
theorem doL_stays {g : Prog} {j k : Nat} (hj : j < 5) (hk : k < g.rules.length) (hs : SortR g.rules) (h : 0 < (goneL g (followsL g) ((j : Int) + 1) g.rules[k]).length) (hg : kGoes j = false) {x : Rule} (hx : x = leftR j g.rules[k] (goneL g (followsL g) ((j : Int) + 1) g.rules[k])) {l : List Rule} (hl : l = g.rules.take k ++ g.rules.drop (k + 1)) :
    doL g ((j : Int) + 1, (k : Int)) = (⟨g.atoms, if x ∈ l then l else l.take (insAt x l) ++ [x] ++ l.drop (insAt x l)⟩, true) := by
  rw [doL_can hj hk h]
  have h0 : ¬ (j = 1 ∨ j = 3 ∨ j = 4) := by simpa [kGoes] using hg
  have hm : moreL ((j : Int) + 1) g.rules[k] (goneL g (followsL g) ((j : Int) + 1) g.rules[k]) = [x] := by
    rw [hx]
    unfold moreL leftR
    by_cases hj0 : j = 0
    · rw [if_pos (by omega), if_pos hj0]
    · rw [if_neg (by omega), if_pos (by omega), if_neg hj0]
  rw [hm, rulesL_snoc1 (sort_cut hs k), insR_search (sort_cut hs k), hl]

theorem grown_below_alloc {B g : Nat} {w w' : World} {o : Obj} (h : (w.alloc o).grownBy w' (some g)) (hg : B ≤ g) (hB : B ≤ w.heap.size) : Below B w w' :=
  ((Below.refl B w).alloc hB o).trans (grown_below h hg (by simp; omega))

/-- Delete of one, at whatever length. -/
theorem deleteL_spec {w : World} {g cap L k : Nat} {cur : List Value} (hR : Row 46 w g cur) (hcl : cur.length = cap * 3) (hL : L ≤ cap) (hk : k < L) (hm : cap ≤ maxLen) (h1 : ∀ u ∈ cur.take (L * 3), u.oneCell' = true) :
    Calls Try.prog 33 #[.slice (some ⟨g, 0, none⟩) L cap, .int .i64 k, .int .i64 ((k : Int) + 1)] w
      (fun e w' => e = .returned (.slice (some ⟨g, 0, none⟩) (L - 1) cap) ∧ w.grownBy w' (some g) ∧ ∃ cur', Row 46 w' g cur' ∧ cur'.length = cap * 3 ∧ cur'.take ((L - 1) * 3) = cur.take (k * 3) ++ (cur.take (L * 3)).drop ((k + 1) * 3)) := by
  obtain ⟨M, rfl⟩ : ∃ M, L = M + 1 := ⟨L - 1, by omega⟩
  exact delete_spec hR hcl hL hk hm h1

/-- What stands behind Do's first reading: a state, a kind, a rule, in blocks of their own. -/
structure DoM (S : Nat → Prop) (lo : Nat) (wx : World) (g : Prog) (j B6 B7 B8 kh : Nat) (sv : Value) (rv : List Value) : Prop where
  st : ∃ a b c d e, sv = .agg #[a, b, c, d, e] ∧ Row 57 wx B6 [a, b, c, d, e]
  kd : Row 63 wx B7 [isFn (kh + 1 + 2 * j) (kh + 2 + 2 * j), .bool (kNeg j), .bool (kGoes j)]
  rl : Row 46 wx B8 rv
  lo6 : lo ≤ B6
  lo7 : lo ≤ B7
  lo8 : lo ≤ B8
  n67 : B6 ≠ B7
  n68 : B6 ≠ B8
  n78 : B7 ≠ B8

set_option maxHeartbeats 100000000 in
set_option maxRecDepth 100000 in
theorem do_region {S : Nat → Prop} {w : World} {v : Value} {g : Prog} {j k : Nat} (hg : ProgV S w v g) (hgood : FineP g) (hj : j < 5) (hk : k < g.rules.length) :
    Calls Try.prog 14 #[v, .agg #[.int .i64 ((j : Int) + 1), .int .i64 k]] w (Ret (fun o w' => ∃ p, o = .tuple #[p, .bool (doL g ((j : Int) + 1, (k : Int))).2] ∧ ProgV (Fr S w) w' p (doL g ((j : Int) + 1, (k : Int))).1) w) := by
  have hg' := hg
  obtain ⟨va, vb, rfl, hga, hgr⟩ := hg
  obtain ⟨aa, ac, rfl, -⟩ := id hga
  obtain ⟨ra, rc, rfl, hrc, hrm, hrl, hrn, hr⟩ := id hgr
  obtain ⟨b, off, pa, pc, na, nc, rfl, hS, hb, e0, e1, e2, hok, hp, hn⟩ := hr.rule hk
  have hgd := hgood.rules _ (List.getElem_mem hk)
  have hrsm := hgood.rsm
  obtain ⟨W3, hW3⟩ : ∃ W3, W3 = ((w.alloc (.cells #[.slice aa g.atoms.length ac, .slice (some ⟨b, off, none⟩) g.rules.length rc] 30)).alloc (.cells #[.int .i64 ((j : Int) + 1), .int .i64 k] 23)).alloc (.cells #[.slice none 0 0, .slice none 0 0] 30) := ⟨_, rfl⟩
  have HW := Lib.hid hW3
  have hB3 : Below w.heap.size w W3 := by rw [hW3]; exact Seq.way
  have hs3 : W3.heap.size = w.heap.size + 3 := by rw [hW3]; simp
  have q0 : W3.cell? ⟨w.heap.size, 0, none⟩ = some (.slice aa g.atoms.length ac) := by rw [hW3]; go_simp
  have q1 : W3.cell? ⟨w.heap.size, 1, none⟩ = some (.slice (some ⟨b, off, none⟩) g.rules.length rc) := by rw [hW3]; go_simp
  have q2 : W3.cell? ⟨w.heap.size + 1, 0, none⟩ = some (.int .i64 ((j : Int) + 1)) := by rw [hW3]; go_simp
  have q3 : W3.cell? ⟨w.heap.size + 1, 1, none⟩ = some (.int .i64 k) := by rw [hW3]; go_simp
  have q4 := (hB3.cell (p := ⟨b, off + k * 3, none⟩) hb).trans e0
  have q5 := (hB3.cell (p := ⟨b, off + k * 3 + 1, none⟩) hb).trans e1
  have q6 := (hB3.cell (p := ⟨b, off + k * 3 + 2, none⟩) hb).trans e2
  have q7 : W3.cell? ⟨w.heap.size + 1 + 1, 0, none⟩ = some (.slice none 0 0) := by rw [hW3]; go_simp
  have q8 : W3.cell? ⟨w.heap.size + 1 + 1, 1, none⟩ = some (.slice none 0 0) := by rw [hW3]; go_simp
  have q9 : W3.frozen? ⟨w.heap.size + 1 + 1, 0, none⟩ = false := by rw [hW3]; go_simp
  have q10 : W3.frozen? ⟨w.heap.size + 1 + 1, 1, none⟩ = false := by rw [hW3]; go_simp
  have hz0 : w.heap.size < W3.heap.size := by omega
  have hz1 : w.heap.size + 1 < W3.heap.size := by omega
  have hzb : b < W3.heap.size := by omega
  have hfs : ∀ (W : World), Below W3.heap.size W3 W → Calls Try.prog 28 #[.agg #[Value.slice aa g.atoms.length ac, Value.slice (some ⟨b, off, none⟩) g.rules.length rc]] W (Ret (fun o w' => StateV (Fr S W) w' o g) W) := by
    intro W hW
    exact look_spec (hg'.mono (T := S) (w' := W) (fun _ h _ => h) fun b _ hb => (hB3.trans (hW.mono (by omega))).block b hb) hgood
  have hfs1 := Lib.hid hfs
  have hs3' := Lib.hid hs3
  have hk0 : (0 : Int) ≤ (k : Int) := by omega
  have hk1 : (k : Int) < (g.rules.length : Int) := by omega
  have hkn : decide ((k : Int) < 0) = false := by simp
  clear hfs hr hW3 hs3 e0 e1 e2
  go_enter Try.func14, Try.ntmps14
  go_upto_region 1 with fail
  rw [← HW.out]
  go_cut [35] (fun s35 wx => s35 = .bool false ∧ Below W3.heap.size W3 wx)
  case first =>
    have g1 : decide ((j : Int) + 1 < 1) = false := by simp; omega
    have g2 : decide (5 < (j : Int) + 1) = false := by simp; omega
    have g4 : decide ((g.rules.length : Int) ≤ (k : Int)) = false := by simp; omega
    have g5 : decide (g.rules.length ≤ k) = false := by simp; omega
    have hk : ∀ {W : World}, Below W3.heap.size W3 W → W.cell? ⟨w.heap.size, 1, none⟩ = some (.slice (some ⟨b, off, none⟩) g.rules.length rc) ∧ W.cell? ⟨w.heap.size + 1, 0, none⟩ = some (.int .i64 ((j : Int) + 1)) ∧ W.cell? ⟨w.heap.size + 1, 1, none⟩ = some (.int .i64 k) := fun hW =>
      ⟨(hW.cell (p := ⟨w.heap.size, 1, none⟩) hz0).trans q1, (hW.cell (p := ⟨w.heap.size + 1, 0, none⟩) hz1).trans q2, (hW.cell (p := ⟨w.heap.size + 1, 1, none⟩) hz1).trans q3⟩
    have Hk := fun {W : World} (hW : Below W3.heap.size W3 W) => Lib.hid (hk hW)
    clear hk
    first
    | (go_region_with ((go_at_call 31; refine kinds_spec.mono ?_; rintro e w4 ⟨kv, rfl, hbk, hkv, -, -⟩; subst hkv; have HBk := below_step hbk (Seq.way : Below W3.heap.size W3 _); obtain ⟨u1, u2, u3⟩ := (Hk HBk).out)))
    | fail
    all_goals go_wp2_with fail
    all_goals go_meet
    all_goals exact ⟨rfl, Seq.way⟩
  case rest =>
    obtain ⟨rfl, hbx⟩ := hcut
    have hix := fun h w' => kinds_at (h := h) hj w'
    have hjw : IntKind.i64.wrap (j : Int) = (j : Int) := by rw [IntKind.wrap_i64]; omega
    have hzx := hbx.size
    have r0 := (hbx.cell (p := ⟨w.heap.size, 0, none⟩) hz0).trans q0
    have r1 := (hbx.cell (p := ⟨w.heap.size, 1, none⟩) hz0).trans q1
    have r2 := (hbx.cell (p := ⟨w.heap.size + 1, 0, none⟩) hz1).trans q2
    have r3 := (hbx.cell (p := ⟨w.heap.size + 1, 1, none⟩) hz1).trans q3
    have r4 := (hbx.cell (p := ⟨b, off + k * 3, none⟩) hzb).trans q4
    have r5 := (hbx.cell (p := ⟨b, off + k * 3 + 1, none⟩) hzb).trans q5
    have r6 := (hbx.cell (p := ⟨b, off + k * 3 + 2, none⟩) hzb).trans q6
    obtain ⟨w1, rfl⟩ : ∃ w1, w1 = wc := ⟨_, rfl⟩
    go_upto_region 3 with fail
    have hkeep : ∀ {W : World}, Below W3.heap.size W3 W → W.cell? ⟨w.heap.size, 0, none⟩ = some (.slice aa g.atoms.length ac) ∧ W.cell? ⟨w.heap.size, 1, none⟩ = some (.slice (some ⟨b, off, none⟩) g.rules.length rc) ∧ W.cell? ⟨w.heap.size + 1, 0, none⟩ = some (.int .i64 ((j : Int) + 1)) ∧ W.cell? ⟨w.heap.size + 1, 1, none⟩ = some (.int .i64 k) ∧
        W.cell? ⟨b, off + k * 3, none⟩ = some (.int .i64 g.rules[k].head) ∧ W.cell? ⟨b, off + k * 3 + 1, none⟩ = some (.slice pa g.rules[k].pos.length pc) ∧ W.cell? ⟨b, off + k * 3 + 2, none⟩ = some (.slice na g.rules[k].neg.length nc) := fun hW =>
      ⟨(hW.cell (p := ⟨w.heap.size, 0, none⟩) hz0).trans q0, (hW.cell (p := ⟨w.heap.size, 1, none⟩) hz0).trans q1, (hW.cell (p := ⟨w.heap.size + 1, 0, none⟩) hz1).trans q2, (hW.cell (p := ⟨w.heap.size + 1, 1, none⟩) hz1).trans q3, (hW.cell (p := ⟨b, off + k * 3, none⟩) hzb).trans q4, (hW.cell (p := ⟨b, off + k * 3 + 1, none⟩) hzb).trans q5, (hW.cell (p := ⟨b, off + k * 3 + 2, none⟩) hzb).trans q6⟩
    have Hkeep := fun {W : World} (hW : Below W3.heap.size W3 W) => Lib.hid (hkeep hW)
    clear hkeep
    go_cut [6, 7, 8] (fun s6 s7 s8 wx => ∃ B6 B7 B8 kh sv, s6 = .pointer (some ⟨B6, 0, none⟩) ∧ s7 = .pointer (some ⟨B7, 0, none⟩) ∧ s8 = .pointer (some ⟨B8, 0, none⟩) ∧ DoM S W3.heap.size wx g j B6 B7 B8 kh sv [.int .i64 g.rules[k].head, .slice pa g.rules[k].pos.length pc, .slice na g.rules[k].neg.length nc] ∧ StateV (fun b => b ≠ B6 ∧ b ≠ B7 ∧ b ≠ B8) wx sv g ∧ KindsAt wx kh ∧ Below W3.heap.size W3 wx)
    case first =>
      refine wp_region_held_drew (S := fun w' => w'.cell? ⟨w.heap.size, 0, none⟩ = some (.slice aa g.atoms.length ac) ∧ w'.cell? ⟨w.heap.size, 1, none⟩ = some (.slice (some ⟨b, off, none⟩) g.rules.length rc) ∧ w'.cell? ⟨w.heap.size + 1, 0, none⟩ = some (.int .i64 ((j : Int) + 1)) ∧ w'.cell? ⟨w.heap.size + 1, 1, none⟩ = some (.int .i64 k) ∧
          w'.cell? ⟨b, off + k * 3, none⟩ = some (.int .i64 g.rules[k].head) ∧ w'.cell? ⟨b, off + k * 3 + 1, none⟩ = some (.slice pa g.rules[k].pos.length pc) ∧ w'.cell? ⟨b, off + k * 3 + 2, none⟩ = some (.slice na g.rules[k].neg.length nc)) (by kernel_rfl) ?_ (fun hHeld => ?_)
      · exact (Hkeep (Below.drew (by assumption))).out
      refine wpAnyH_take (i := 0) (oi := _) (v := ?_) rfl (by kernel_rfl) (by kernel_rfl) (by kernel_rfl) (fun _ _ _ h => h) (Or.inl ⟨by rfl, ?_⟩) (by assumption) ?_
      rotate_left 1
      · intro w hSw; (try dsimp only at hSw); go_simp; (with_reducible rfl)
      (try simp only [Act.put, List.getElem_toArray, List.getElem_cons_zero, List.setIfInBounds_toArray, List.set_cons_zero, List.set_cons_succ])
      refine wpAnyH_take (i := 3) (oi := _) (v := ?_) rfl (by kernel_rfl) (by kernel_rfl) (by kernel_rfl) (fun _ _ _ h => h) (Or.inl ⟨by rfl, ?_⟩) (by assumption) ?_
      rotate_left 1
      · intro w hSw; (try dsimp only at hSw); go_simp; (with_reducible rfl)
      (try simp only [Act.put, List.getElem_toArray, List.getElem_cons_zero, List.getElem_cons_succ, List.setIfInBounds_toArray, List.set_cons_zero, List.set_cons_succ])
      refine wpAnyH_take (i := 4) (oi := _) (v := ?_) rfl (by kernel_rfl) (by kernel_rfl) (by kernel_rfl) (fun _ _ _ h => h) (Or.inl ⟨by rfl, ?_⟩) (by assumption) ?_
      rotate_left 1
      · intro w hSw; (try dsimp only at hSw); go_simp; (with_reducible rfl)
      (try simp only [Act.put, List.getElem_toArray, List.getElem_cons_zero, List.getElem_cons_succ, List.setIfInBounds_toArray, List.set_cons_zero, List.set_cons_succ])
      refine wpAnyH_take (i := 5) (oi := _) (v := ?_) rfl (by kernel_rfl) (by kernel_rfl) (by kernel_rfl) (fun _ _ _ h => h) (Or.inl ⟨by rfl, ?_⟩) (by assumption) ?_
      rotate_left 1
      · intro w hSw; (try dsimp only at hSw); go_simp; (with_reducible rfl)
      (try simp only [Act.put, List.getElem_toArray, List.getElem_cons_zero, List.getElem_cons_succ, List.setIfInBounds_toArray, List.set_cons_zero, List.set_cons_succ])
      refine wpAnyH_take (i := 7) (oi := _) (v := ?_) rfl (by kernel_rfl) (by kernel_rfl) (by kernel_rfl) (fun _ _ _ h => h) (Or.inl ⟨by rfl, ?_⟩) (by assumption) ?_
      rotate_left 1
      · intro w hSw; (try dsimp only at hSw); go_simp; (with_reducible rfl)
      (try simp only [Act.put, List.getElem_toArray, List.getElem_cons_zero, List.getElem_cons_succ, List.setIfInBounds_toArray, List.set_cons_zero, List.set_cons_succ])
      refine wpAnyH_take (i := 8) (oi := _) (v := ?_) rfl (by kernel_rfl) (by kernel_rfl) (by kernel_rfl) (fun _ _ _ h => h) (Or.inl ⟨by rfl, ?_⟩) (by assumption) ?_
      rotate_left 1
      · intro w hSw; (try dsimp only at hSw); go_simp; (with_reducible rfl)
      (try simp only [Act.put, List.getElem_toArray, List.getElem_cons_zero, List.getElem_cons_succ, List.setIfInBounds_toArray, List.set_cons_zero, List.set_cons_succ])
      refine wpAnyH_take (i := 9) (oi := _) (v := ?_) rfl (by kernel_rfl) (by kernel_rfl) (by kernel_rfl) (fun _ _ _ h => h) (Or.inl ⟨by rfl, ?_⟩) (by assumption) ?_
      rotate_left 1
      · intro w hSw; (try dsimp only at hSw); go_simp; (with_reducible rfl)
      (try simp only [Act.put, List.getElem_toArray, List.getElem_cons_zero, List.getElem_cons_succ, List.setIfInBounds_toArray, List.set_cons_zero, List.set_cons_succ])
      refine wpAnyH_take (i := 10) (oi := _) (v := ?_) rfl (by kernel_rfl) (by kernel_rfl) (by kernel_rfl) (fun _ _ _ h => h) (Or.inl ⟨by rfl, ?_⟩) (by assumption) ?_
      rotate_left 1
      · intro w hSw; (try dsimp only at hSw); go_simp; (with_reducible rfl)
      (try simp only [Act.put, List.getElem_toArray, List.getElem_cons_zero, List.getElem_cons_succ, List.setIfInBounds_toArray, List.set_cons_zero, List.set_cons_succ])
      refine wpAnyH_take (i := 11) (oi := _) (v := ?_) rfl (by kernel_rfl) (by kernel_rfl) (by kernel_rfl) (fun _ _ _ h => h) (Or.inl ⟨by rfl, ?_⟩) (by assumption) ?_
      rotate_left 1
      · intro w hSw; (try dsimp only at hSw); go_simp; (with_reducible rfl)
      (try simp only [Act.put, List.getElem_toArray, List.getElem_cons_zero, List.getElem_cons_succ, List.setIfInBounds_toArray, List.set_cons_zero, List.set_cons_succ])
      refine wpAnyH_take (i := 12) (oi := _) (v := ?_) rfl (by kernel_rfl) (by kernel_rfl) (by kernel_rfl) (fun _ _ _ h => h) (Or.inl ⟨by rfl, ?_⟩) (by assumption) ?_
      rotate_left 1
      · intro w hSw; (try dsimp only at hSw); go_simp; (with_reducible rfl)
      (try simp only [Act.put, List.getElem_toArray, List.getElem_cons_zero, List.getElem_cons_succ, List.setIfInBounds_toArray, List.set_cons_zero, List.set_cons_succ])
      have hSk : ∀ W : World, Below W3.heap.size W3 W → _ := fun W hW => (Hkeep hW).out
      have hlk : Hid (∀ (W : World), Below W3.heap.size W3 W → Calls Try.prog 28 #[.agg #[Value.slice aa g.atoms.length ac, Value.slice (some ⟨b, off, none⟩) g.rules.length rc]] W (Ret (fun o w' => StateV (Fr (fun b => b < W3.heap.size) W) w' o g) W)) := by
        refine Lib.hid fun W hW => ?_
        exact look_spec (hg'.mono (T := fun b => b < W3.heap.size) (w' := W) (fun b _ h => (show b < W3.heap.size by omega)) fun b _ hb => (hB3.trans (hW.mono (by omega))).block b hb) hgood
      refine region_do W3 g j (t38 := u38) (t39 := u39) (t43 := u43) (s6 := undef) (s7 := undef) (s8 := undef) ?hr ?hl ?hf ?hA ?h0 hSk ?h1 ?h2 ?h13 ?h14 ?h15 rfl (by rfl) (by kernel_rfl) (by kernel_rfl) (by kernel_rfl) (fun _ _ _ _ h => h) ?hput ?hix ?hend ?hn3 ?hn4
      case hn3 => kernel_rfl
      case hn4 => kernel_rfl
      case hput =>
        intro t38 t39 t43 s6 s7 s8 v
        simp only [RF, Act.put, List.setIfInBounds_toArray, List.set_cons_zero, List.set_cons_succ]
      case hix =>
        intro t38 kh t43 s6 s7 s8
        refine Or.inl ⟨by rfl, fun W _ => ?_⟩
        simp only [RF, Act.put, List.setIfInBounds_toArray, List.set_cons_zero, List.set_cons_succ]
        simp only [List.getElem_toArray, List.getElem_cons_zero, List.getElem_cons_succ, isFn]
        have hixk := hix kh W
        go_simp
        done
      case hr => kernel_rfl
      case hl => kernel_rfl
      case hA => simp only [RF, Act.put, List.setIfInBounds_toArray, List.set_cons_zero, List.set_cons_succ]
      case hf => exact Nat.le_of_ble_eq_true (by kernel_rfl)
      case h0 => exact ⟨Seq.way, fun h => (by cases h), fun h => (by cases h), fun h => (by cases h), fun h => (by cases h), fun h => (by cases h), fun h => (by cases h)⟩
      case h13 =>
        rintro l k' x b' c _ w1 ⟨t38, t39, t43, s6, s7, s8, rfl, hR⟩
        have hN := Lib.hid hR.new6
        clear hR
        refine wpOp_run rfl (by rfl) ?_
        generalize hK : RI _ W3 g j l k' x true b' c = K
        have HK := Lib.hid hK
        clear hK
        simp only [RF, Act.put, List.setIfInBounds_toArray, List.set_cons_zero, List.set_cons_succ, List.getElem_toArray, List.getElem_cons_zero, List.getElem_cons_succ]
        go_simp
        rw [← HK.out]
        exact ⟨t38, t39, t43, _, s7, s8, by simp only [RF, Act.put, List.setIfInBounds_toArray, List.set_cons_zero, List.set_cons_succ], hN.out⟩
      case h14 =>
        rintro l k' x b' c _ w1 ⟨t38, t39, t43, s6, s7, s8, rfl, hR⟩
        have hN := Lib.hid hR.new7
        clear hR
        refine wpOp_run rfl (by rfl) ?_
        generalize hK : RI _ W3 g j l k' x b' true c = K
        have HK := Lib.hid hK
        clear hK
        simp only [RF, Act.put, List.setIfInBounds_toArray, List.set_cons_zero, List.set_cons_succ, List.getElem_toArray, List.getElem_cons_zero, List.getElem_cons_succ]
        go_simp
        rw [← HK.out]
        exact ⟨t38, t39, t43, s6, _, s8, by simp only [RF, Act.put, List.setIfInBounds_toArray, List.set_cons_zero, List.set_cons_succ], hN.out⟩
      case h15 =>
        rintro l k' x b' c _ w1 ⟨t38, t39, t43, s6, s7, s8, rfl, hR⟩
        have hN := Lib.hid hR.new8
        clear hR
        refine wpOp_run rfl (by rfl) ?_
        generalize hK : RI _ W3 g j l k' x b' c true = K
        have HK := Lib.hid hK
        clear hK
        simp only [RF, Act.put, List.setIfInBounds_toArray, List.set_cons_zero, List.set_cons_succ, List.getElem_toArray, List.getElem_cons_zero, List.getElem_cons_succ]
        go_simp
        rw [← HK.out]
        exact ⟨t38, t39, t43, s6, s7, _, by simp only [RF, Act.put, List.setIfInBounds_toArray, List.set_cons_zero, List.set_cons_succ], hN.out⟩
      case h1 =>
        rintro a' b' c _ w1 ⟨t38, t39, t43, s6, s7, s8, rfl, hR⟩
        have HR := Lib.hid hR
        clear hR
        refine wpOp_run rfl (by rfl) ?_
        generalize hK : RI _ W3 g j true false false a' b' c = K
        have HK := Lib.hid hK
        clear hK
        simp only [RF, Act.put, List.setIfInBounds_toArray, List.set_cons_zero, List.set_cons_succ, List.getElem_toArray, List.getElem_cons_zero, List.getElem_cons_succ]
        go_simp
        refine (hlk.out _ HR.out.bel).mono ?_
        rintro e w2 ⟨sv, rfl, hbl, hsv⟩
        (try dsimp only)
        rw [← HK.out]
        exact ⟨_, t39, t43, s6, s7, s8, by simp only [RF, Act.put, List.setIfInBounds_toArray, List.set_cons_zero, List.set_cons_succ], HR.out.look hbl hsv⟩
      case h2 =>
        rintro a' b' c _ w1 ⟨t38, t39, t43, s6, s7, s8, rfl, hR⟩
        have HR := Lib.hid hR
        clear hR
        refine wpOp_run rfl (by rfl) ?_
        generalize hK : RI _ W3 g j true true false a' b' c = K
        have HK := Lib.hid hK
        clear hK
        simp only [RF, Act.put, List.setIfInBounds_toArray, List.set_cons_zero, List.set_cons_succ, List.getElem_toArray, List.getElem_cons_zero, List.getElem_cons_succ]
        go_simp
        refine kinds_spec.mono ?_
        rintro e w4 ⟨kv, rfl, hbk, hkv, hK, hzk⟩
        subst hkv
        (try dsimp only)
        rw [← HK.out]
        exact ⟨t38, _, t43, s6, s7, s8, by simp only [RF, Act.put, List.setIfInBounds_toArray, List.set_cons_zero, List.set_cons_succ], HR.out.kinds hbk hK⟩
      case hend =>
        intro t38 t39 t43 s6 s7 s8 w1 hR fuel
        obtain ⟨B6, rfl, hlo6, hR6⟩ := hR.r6 rfl
        obtain ⟨B7, rfl, hlo7, hR7⟩ := hR.r7 rfl
        obtain ⟨B8, rfl, hlo8, hR8⟩ := hR.r8 rfl
        obtain ⟨kh, rfl, hK⟩ := hR.ix rfl
        obtain ⟨aa2, ac2, ra2, rc2, fa2, fc2, ha2, hc2, oa2, oc2, rfl⟩ := (hR.st rfl).shape
        have g1 := Lib.hid (hR.at3 hlo6 hlo7 hlo8 hR6 hR7 hR8 hK)
        clear hR hR6 hR7 hR8 hK
        have a160 := g1.out.r6.cell (j := 0) (by simp)
        have a161 := g1.out.r6.cell (j := 1) (by simp)
        have a162 := g1.out.r6.cell (j := 2) (by simp)
        have a163 := g1.out.r6.cell (j := 3) (by simp)
        have a164 := g1.out.r6.cell (j := 4) (by simp)
        simp only [List.getElem_cons_zero, List.getElem_cons_succ] at a160 a161 a162 a163 a164
        have f16 := g1.out.r6.frozen
        refine wpAnyH_all (rs := [16]) (by kernel_rfl) (by simp) fun i hi => ?_
        obtain rfl := List.mem_singleton.1 hi
        clear hi
        refine wpOp_run rfl (by rfl) ?_
        generalize hKK : (fun a' w' => _ ∧ wpAnyH _ _ _ _ _ _ _ a' w') = KK
        have HKK16 := Lib.hid hKK
        clear hKK
        simp only [RF, Act.put, List.setIfInBounds_toArray, List.set_cons_zero, List.set_cons_succ, List.getElem_toArray, List.getElem_cons_zero, List.getElem_cons_succ]
        go_simp
        rw [← HKK16.out]
        clear HKK16 f16 a160 a161 a162 a163 a164
        have g16 := Lib.hid (g1.out.set6 (a := (.slice aa2 g.atoms.length ac2)) (b := (.slice ra2 g.rules.length rc2)) (c := (.slice fa2 g.atoms.length fc2)) (d := (.slice ha2 g.atoms.length hc2)) (e := (.slice oa2 g.atoms.length oc2)))
        refine ⟨hSk _ g16.out.bel, ?_⟩
        generalize (((((w1.setCell ⟨B6, 0, none⟩ (.slice aa2 g.atoms.length ac2)).setCell ⟨B6, 1, none⟩ (.slice ra2 g.rules.length rc2)).setCell ⟨B6, 2, none⟩ (.slice fa2 g.atoms.length fc2)).setCell ⟨B6, 3, none⟩ (.slice ha2 g.atoms.length hc2)).setCell ⟨B6, 4, none⟩ (.slice oa2 g.atoms.length oc2)) = w16 at g16 ⊢
        clear g1
        have a170 := g16.out.r7.cell (j := 0) (by simp)
        have a171 := g16.out.r7.cell (j := 1) (by simp)
        have a172 := g16.out.r7.cell (j := 2) (by simp)
        simp only [List.getElem_cons_zero, List.getElem_cons_succ] at a170 a171 a172
        have f17 := g16.out.r7.frozen
        refine wpAnyH_all (rs := [17]) (by kernel_rfl) (by simp) fun i hi => ?_
        obtain rfl := List.mem_singleton.1 hi
        clear hi
        refine wpOp_run rfl (by rfl) ?_
        generalize hKK : (fun a' w' => _ ∧ wpAnyH _ _ _ _ _ _ _ a' w') = KK
        have HKK17 := Lib.hid hKK
        clear hKK
        simp only [List.getElem_toArray, List.getElem_cons_zero, List.getElem_cons_succ]
        simp only [isFn]
        go_simp
        rw [← HKK17.out]
        clear HKK17 f17 a170 a171 a172
        have g17 := Lib.hid (g16.out.set7 (a := (.func (.func 56) #[] #[.pointer (some ⟨kh + 1 + 2 * j, 0, none⟩), .pointer (some ⟨kh + 2 + 2 * j, 0, none⟩)])) (b := (.bool (kNeg j))) (c := (.bool (kGoes j))))
        refine ⟨hSk _ g17.out.bel, ?_⟩
        generalize (((w16.setCell ⟨B7, 0, none⟩ (.func (.func 56) #[] #[.pointer (some ⟨kh + 1 + 2 * j, 0, none⟩), .pointer (some ⟨kh + 2 + 2 * j, 0, none⟩)])).setCell ⟨B7, 1, none⟩ (.bool (kNeg j))).setCell ⟨B7, 2, none⟩ (.bool (kGoes j))) = w17 at g17 ⊢
        clear g16
        have a180 := g17.out.r8.cell (j := 0) (by simp)
        have a181 := g17.out.r8.cell (j := 1) (by simp)
        have a182 := g17.out.r8.cell (j := 2) (by simp)
        simp only [List.getElem_cons_zero, List.getElem_cons_succ] at a180 a181 a182
        have f18 := g17.out.r8.frozen
        refine wpAnyH_all (rs := [18]) (by kernel_rfl) (by simp) fun i hi => ?_
        obtain rfl := List.mem_singleton.1 hi
        clear hi
        refine wpOp_run rfl (by rfl) ?_
        generalize hKK : (fun a' w' => _ ∧ wpAnyH _ _ _ _ _ _ _ a' w') = KK
        have HKK18 := Lib.hid hKK
        clear hKK
        simp only [List.getElem_toArray, List.getElem_cons_zero, List.getElem_cons_succ]
        go_simp
        rw [← HKK18.out]
        clear HKK18 f18 a180 a181 a182
        have g18 := Lib.hid (g17.out.set8 (a := (.int .i64 g.rules[k].head)) (b := (.slice pa g.rules[k].pos.length pc)) (c := (.slice na g.rules[k].neg.length nc)))
        refine ⟨hSk _ g18.out.bel, ?_⟩
        generalize (((w17.setCell ⟨B8, 0, none⟩ (.int .i64 g.rules[k].head)).setCell ⟨B8, 1, none⟩ (.slice pa g.rules[k].pos.length pc)).setCell ⟨B8, 2, none⟩ (.slice na g.rules[k].neg.length nc)) = w18 at g18 ⊢
        clear g17
        refine wpAnyH_done (by kernel_rfl) ?_ _
        go_wp2_with fail
        go_meet
        exact ⟨B6, B7, B8, kh, _, rfl, rfl, rfl, ⟨⟨_, _, _, _, _, rfl, g18.out.r6⟩, g18.out.r7, g18.out.r8, g18.out.lo6, g18.out.lo7, g18.out.lo8, row_types g18.out.r6 g18.out.r7 (by decide), row_types g18.out.r6 g18.out.r8 (by decide), row_types g18.out.r7 g18.out.r8 (by decide)⟩, g18.out.st, g18.out.kd, g18.out.bel⟩
    case rest =>
      obtain ⟨B6, B7, B8, kh, sv, rfl, rfl, rfl, HM, HS, HK, HB⟩ := hcut
      clear r0 r1 r2 r3 r4 r5 r6 hzx hbx hix hfs1
      have hzx := HB.size
      have r0 := (HB.cell (p := ⟨w.heap.size, 0, none⟩) hz0).trans q0
      have r1 := (HB.cell (p := ⟨w.heap.size, 1, none⟩) hz0).trans q1
      have r3 := (HB.cell (p := ⟨w.heap.size + 1, 1, none⟩) hz1).trans q3
      have hsz := hs3'.out
      have hwc : Below w.heap.size w wc := hB3.trans (HB.mono (by omega))
      obtain ⟨sa, sb, sc, sd, se, rfl, hst⟩ := HM.st
      have k0 := HM.kd.cell (j := 0) (by simp)
      have k1 := HM.kd.cell (j := 1) (by simp)
      have k2 := HM.kd.cell (j := 2) (by simp)
      have t0 := hst.cell (j := 0) (by simp)
      have t1 := hst.cell (j := 1) (by simp)
      have t2 := hst.cell (j := 2) (by simp)
      have t3 := hst.cell (j := 3) (by simp)
      have t4 := hst.cell (j := 4) (by simp)
      have u0 := HM.rl.cell (j := 0) (by simp)
      have u1 := HM.rl.cell (j := 1) (by simp)
      have u2 := HM.rl.cell (j := 2) (by simp)
      simp only [List.getElem_cons_zero, List.getElem_cons_succ, isFn] at k0 k1 k2 t0 t1 t2 t3 t4 u0 u1 u2
      have r7 := (HB.cell (p := ⟨w.heap.size + 1 + 1, 0, none⟩) (by simp <;> omega)).trans q7
      have r8 := (HB.cell (p := ⟨w.heap.size + 1 + 1, 1, none⟩) (by simp <;> omega)).trans q8
      have r9 := (HB.frozen (p := ⟨w.heap.size + 1 + 1, 0, none⟩) (by simp <;> omega)).trans q9
      have r10 := (HB.frozen (p := ⟨w.heap.size + 1 + 1, 1, none⟩) (by simp <;> omega)).trans q10
      have hcan := Lib.hid (can_spec hj (HK j hj) HS (hp.at hwc) (hn.at hwc) hgd)
      obtain ⟨w1, rfl⟩ : ∃ w1, w1 = wc := ⟨_, rfl⟩
      obtain ⟨m, hm⟩ : ∃ m, m = (goneL g (followsL g) ((j : Int) + 1) g.rules[k]).length := ⟨_, rfl⟩
      rw [← hm] at hcan
      have Hm := Lib.hid hm
      clear hm
      have h6l := hst.lt
      have h7l := HM.kd.lt
      have h8l := HM.rl.lt
      have hx0 : w.heap.size < w1.heap.size := by omega
      have hx1 : w.heap.size + 1 < w1.heap.size := by omega
      have hx2 : w.heap.size + 1 + 1 < w1.heap.size := by omega
      by_cases hm0 : 0 < m
      · have hmd : decide (0 < m) = true := by simpa using hm0
        go_wp2_with fail
        refine hcan.out.mono ?_
        rintro e w2 ⟨rfl, hb2⟩
        have hwc2 : Below w.heap.size w w2 := hwc.trans (hb2.mono (by omega))
        have hz2 := hb2.size
        have s0 := (hb2.cell (p := ⟨w.heap.size, 0, none⟩) hx0).trans r0
        have s1 := (hb2.cell (p := ⟨w.heap.size, 1, none⟩) hx0).trans r1
        have s3 := (hb2.cell (p := ⟨w.heap.size + 1, 1, none⟩) hx1).trans r3
        have hne : g.rules ≠ [] := by intro e; rw [e] at hk; simp at hk
        have hcl := fun (W : World) (hW : Below w2.heap.size w2 W) => cloneR_spec ((hgr.bnd.at hwc2).at hW) hne (by omega)
        have Hcl := Lib.hid hcl
        have hwr : IntKind.i64.wrap ((k : Int) + 1) = (k : Int) + 1 := by rw [IntKind.wrap_i64]; omega
        clear hcl
        obtain ⟨l, hl⟩ : ∃ l, l = g.rules.take k ++ g.rules.drop (k + 1) := ⟨_, rfl⟩
        have hll : l.length = g.rules.length - 1 := by rw [hl, List.length_append, List.length_take, List.length_drop]; omega
        have Hl := Lib.hid hl
        have Hll := Lib.hid hll
        clear hl hll
        go_upto_region 6 with fail
        go_cut [9] (fun s9 wx => ∃ gR cap cur, s9 = .slice (some ⟨gR, 0, none⟩) l.length cap ∧ w2.heap.size ≤ gR ∧ g.rules.length ≤ cap ∧ cap ≤ maxLen ∧ cur.length = cap * 3 ∧ Row 46 wx gR cur ∧ Below w2.heap.size w2 wx ∧
          FlatR (fun b => S b ∧ b < w.heap.size) wx (cur.take (l.length * 3)) l)
        case first =>
          go_region_held3 (fun w' => w'.cell? ⟨w.heap.size, 1, none⟩ = some (.slice (some ⟨b, off, none⟩) g.rules.length rc) ∧ w'.cell? ⟨w.heap.size + 1, 1, none⟩ = some (.int .i64 k))
            (first | exact ⟨s1, s3⟩ | exact ⟨c3a, c3b⟩ | exact ⟨c4a, c4b⟩ | (go_simp; done) | go_keep)
            (first
              | (go_at_call 34; refine (Hcl.out _ Seq.way).mono ?_; rintro e w3 ⟨ov, rfl, hb3, gR, cap, cur, rfl, hg3, hcap, hcm, hcll, hR3, hF3⟩; have c3a := (hb3.cell (p := ⟨w.heap.size, 1, none⟩) (by simp <;> omega)).trans s1; have c3b := (hb3.cell (p := ⟨w.heap.size + 1, 1, none⟩) (by simp <;> omega)).trans s3)
              | (go_at_call 33; refine (deleteL_spec hR3 hcll hcap hk hcm hF3.one).mono ?_; rintro e w4 ⟨rfl, hG4, cur', hR4, hcl4, htk⟩; have hb4 := grown_below hG4 hg3 (by have := hR3.lt; omega); have c4a := (hb4.cell (p := ⟨w.heap.size, 1, none⟩) (by simp <;> omega)).trans c3a; have c4b := (hb4.cell (p := ⟨w.heap.size + 1, 1, none⟩) (by simp <;> omega)).trans c3b))
          go_wp2_with fail
          go_meet
          refine ⟨gR, cap, cur', by rw [Hll.out], by simpa using hg3, hcap, hcm, hcl4, hR4, Below.trans Seq.way (hb3.trans hb4), ?_⟩
          rw [Hl.out, List.length_append, List.length_take, List.length_drop, show min k g.rules.length + (g.rules.length - (k + 1)) = g.rules.length - 1 by omega, htk]
          have h5 := (hF3.take k (by omega)).append (hF3.drop (k + 1))
          rw [List.take_take, show min (k * 3) (g.rules.length * 3) = k * 3 by omega] at h5
          exact h5.mono (fun b h _ => h.1.1) fun b h hlt => hG4.block b hlt (fun e => h.2 (by simpa using e))
        case rest =>
          obtain ⟨gR, cap, cur, rfl, hgR, hcapL, hcapm, hcurl, hRow, hb26, hFl⟩ := hcut
          clear Hcl s0 s1 s3
          obtain ⟨w6, rfl⟩ : ∃ w6, w6 = wc := ⟨_, rfl⟩
          have hb16 : Below w1.heap.size w1 w6 := below_step hb26 hb2
          have hz6 := hb16.size
          have hw6 : Below w.heap.size w w6 := hwc.trans (hb16.mono (by omega))
          have hRow6 := hRow.lt
          have v0 := (hb16.cell (p := ⟨w.heap.size, 0, none⟩) hx0).trans r0
          have v7 := (hb16.cell (p := ⟨w.heap.size + 1 + 1, 0, none⟩) hx2).trans r7
          have v8 := (hb16.cell (p := ⟨w.heap.size + 1 + 1, 1, none⟩) hx2).trans r8
          have v9 := (hb16.frozen (p := ⟨w.heap.size + 1 + 1, 0, none⟩) hx2).trans r9
          have v10 := (hb16.frozen (p := ⟨w.heap.size + 1 + 1, 1, none⟩) hx2).trans r10
          have R7 := HM.kd.below hb16 h7l
          have R8 := HM.rl.below hb16 h8l
          have R6 := hst.below hb16 h6l
          have hl1 : l.length ≤ g.rules.length := by have := Hll.out; omega
          have hl2 : l.length < cap := by have := Hll.out; omega
          have hlS : SortR l := by rw [Hl.out]; exact sort_cut hgood.sort k
          have Hmp : 0 < (goneL g (followsL g) ((j : Int) + 1) g.rules[k]).length := by rw [← Hm.out]; exact hm0
          have hlo6 := HM.lo6
          have hlo7 := HM.lo7
          have hlo8 := HM.lo8
          have hn78 := HM.n78
          have hn68 := HM.n68
          have x0 := R7.cell (j := 0) (by simp)
          have x1 := R7.cell (j := 1) (by simp)
          have x2 := R7.cell (j := 2) (by simp)
          have y0 := R8.cell (j := 0) (by simp)
          have y1 := R8.cell (j := 1) (by simp)
          have y2 := R8.cell (j := 2) (by simp)
          simp only [List.getElem_cons_zero, List.getElem_cons_succ, isFn] at x0 x1 x2 y0 y1 y2
          -- what is handed back
          have hend : ∀ (W : World) (rl : List Rule) (ro : Option Addr) (rcap : Nat), Below w.heap.size w W → Seq ruleE (fun b => (S b ∨ w.heap.size ≤ b) ∧ b ≠ w.heap.size + 1 + 1) W (.slice ro rl.length rcap) rl → doL g ((j : Int) + 1, (k : Int)) = (⟨g.atoms, rl⟩, true) →
              Hid (∃ p, Value.tuple #[.agg #[.slice aa g.atoms.length ac, .slice ro rl.length rcap], .bool true] = .tuple #[p, .bool (doL g ((j : Int) + 1, (k : Int))).2] ∧ ProgV (Fr S w) ((W.setCell ⟨w.heap.size + 1 + 1, 0, none⟩ (.slice aa g.atoms.length ac)).setCell ⟨w.heap.size + 1 + 1, 1, none⟩ (.slice ro rl.length rcap)) p (doL g ((j : Int) + 1, (k : Int))).1) := by
            intro W rl ro rcap hW hrl hd
            refine Lib.hid ⟨_, by rw [hd], ?_⟩
            rw [hd]
            have hkeepB : ∀ b, b ≠ w.heap.size + 1 + 1 → ((W.setCell ⟨w.heap.size + 1 + 1, 0, none⟩ (.slice aa g.atoms.length ac)).setCell ⟨w.heap.size + 1 + 1, 1, none⟩ (.slice ro rl.length rcap)).heap[b]? = W.heap[b]? := by
              intro b hb
              rw [Below.heap_setCell _ _ _ _ hb, Below.heap_setCell _ _ _ _ hb]
            refine ⟨_, _, rfl, (hga.bnd.at hW).mono (fun b h _ => .inl h.1) fun b h _ => hkeepB b (by have := h.2; omega), ?_⟩
            exact hrl.mono (fun b h _ => h.1) fun b h _ => hkeepB b h.2
          obtain ⟨gv, hgv⟩ : ∃ gv, gv = kGoes j := ⟨_, rfl⟩
          rw [← hgv] at x2
          have Hgv := Lib.hid hgv
          cases gv
          · obtain ⟨nv, hnv⟩ : ∃ nv, nv = kNeg j := ⟨_, rfl⟩
            rw [← hnv] at x1
            have Hnv := Lib.hid hnv
            clear hgv hnv
            cases nv
            · --P
              have hsd : sideL ((j : Int) + 1) g.rules[k] = g.rules[k].pos := by
                unfold sideL
                have h1 := Hnv.out
                unfold kNeg at h1
                by_cases h2 : j = 0 ∨ j = 1
                · simp [h2] at h1
                · rw [if_neg (by omega)]
              have hsne : g.rules[k].pos ≠ [] := by
                intro e
                obtain ⟨x, hx⟩ := List.exists_mem_of_length_pos Hmp
                have := (goneL_mem.1 hx).1
                rw [hsd, e] at this
                simp at this
              have hex : g.rules[k].pos.any (isGone g (followsL g) ((j : Int) + 1)) = true := by
                rw [← hsd, any_gone]; simpa using Hmp
              obtain ⟨lf, hlf⟩ : ∃ lf, lf = stayL (isGone g (followsL g) ((j : Int) + 1)) g.rules[k].pos g.rules[k].pos.length := ⟨_, rfl⟩
              have hlfw : lf = withoutL g.rules[k].pos (goneL g (followsL g) ((j : Int) + 1) g.rules[k]) := by
                rw [hlf]; have := stay_without g (followsL g) ((j : Int) + 1) g.rules[k]; rw [hsd] at this; exact this
              obtain ⟨x, hx⟩ : ∃ x : Rule, x = ⟨g.rules[k].head, lf, g.rules[k].neg⟩ := ⟨_, rfl⟩
              have hxl : x = leftR j g.rules[k] (goneL g (followsL g) ((j : Int) + 1) g.rules[k]) := by
                have h0 := Hgv.out
                have h1 := Hnv.out
                rw [hx, hlfw]
                unfold kGoes at h0; unfold kNeg at h1
                unfold leftR
                rw [if_neg (by simp at h0 h1; omega)]
              have hd := doL_stays hj hk hgood.sort Hmp Hgv.out.symm hxl Hl.out
              have hside := hp.at hw6
              have hmf : ∀ (fn : Fn) (first cap : Array Value) (w : World), (Instr.makeFunc fn first cap).run Try.prog w = .ok (.func fn first cap) w := fun _ _ _ _ => rfl
              have Hlf := Lib.hid hlf
              have Hlfw := Lib.hid hlfw
              have Hx := Lib.hid hx
              have Hd := Lib.hid hd
              have hllf : lf.length ≤ g.rules[k].pos.length := by rw [hlf]; exact stayL_len _ _ _
              have hgl := hgd.plen
              clear hsd hlf hlfw hx hxl hd
              go_wp2_with fail
              refine side_spec.mono ?_
              rintro e w7 ⟨rfl, hb7⟩
              have hz7 := hb7.size
              have hw7 : Below w.heap.size w w7 := hw6.trans (hb7.mono (by omega))
              have hspec := cloneI_spec (hp.at hw7) hsne hgl
              go_wp2_with fail
              refine hspec.mono ?_
              rintro e w8 ⟨ov, rfl, hb8, gI, capI, curI, rfl, hgI, hcI, hcIm, hcIl, hRI, hcellI⟩
              have hb17 : Below w1.heap.size w1 w7 := hb16.trans (hb7.mono hz6)
              have hclo : Clo (fun b => b ≠ B6 ∧ b ≠ B7 ∧ b ≠ B8) w7 g j B7 B6 := ⟨hj, _, _, _, _, _, _, _, HM.kd.below hb17 h7l, (HK j hj).at hb17, hst.below hb17 h6l, HS.at hb17⟩
              have hrange : ∀ y ∈ g.rules[k].pos, 0 ≤ y ∧ y < (g.atoms.length : Int) := hgd.pos
              have hokI : ∀ y ∈ g.rules[k].pos, IntOK y := by
                intro y hy; have h1 := hrange y hy; have h2 := hgood.alen
                exact ⟨by omega, by omega⟩
              have hspec2 := deleteF_spec (w0 := w7) hclo hb8 hgI hRI hcIl hcI hcIm hgl hcellI hrange hokI hex
              rw [← Hlf.out] at hspec2
              have Hspec2 := Lib.hid hspec2
              clear hspec hspec2 hcellI hrange hokI hclo hex hsne
              go_wp2_with fail
              refine Hspec2.out.mono ?_
              rintro e w9 ⟨rfl, hb79, hfr9, hsz9, curL, hRL, hcellL⟩
              have hz9 := hb79.size
              have hb69 : Below w6.heap.size w6 w9 := hb7.trans (hb79.mono hz7)
              have hw9 : Below w.heap.size w w9 := hw6.trans (hb69.mono (by omega))
              have g0 := (hb69.cell (p := ⟨w.heap.size, 0, none⟩) (by simp <;> omega)).trans v0
              have g7 := (hb69.cell (p := ⟨w.heap.size + 1 + 1, 0, none⟩) (by simp <;> omega)).trans v7
              have g8 := (hb69.cell (p := ⟨w.heap.size + 1 + 1, 1, none⟩) (by simp <;> omega)).trans v8
              have g9 := (hb69.frozen (p := ⟨w.heap.size + 1 + 1, 0, none⟩) (by simp <;> omega)).trans v9
              have g10 := (hb69.frozen (p := ⟨w.heap.size + 1 + 1, 1, none⟩) (by simp <;> omega)).trans v10
              have e1 := (hb69.cell (p := ⟨B7, 1, none⟩) (by simp <;> omega)).trans x1
              have R89 := R8.below hb69 (by omega)
              have z0 := R89.cell (j := 0) (by simp)
              have z1 := R89.cell (j := 1) (by simp)
              have z2 := R89.cell (j := 2) (by simp)
              have zf := R89.frozen 1
              simp only [List.getElem_cons_zero, List.getElem_cons_succ] at z0 z1 z2
              have hn1 : w.heap.size ≠ B8 := by omega
              have hn2 : w.heap.size + 1 + 1 ≠ B8 := by omega
              go_wp2_with fail
              obtain ⟨W10, hW10⟩ : ∃ W10, W10 = w9.setCell ⟨B8, 1, none⟩ (.slice (some ⟨gI, 0, none⟩) lf.length capI) := ⟨_, rfl⟩
              have hz10 : W10.heap.size = w9.heap.size := by rw [hW10]; simp
              have hb9 : ∀ b, b ≠ B8 → W10.heap[b]? = w9.heap[b]? := fun b h => by rw [hW10]; exact Below.heap_setCell _ _ _ _ h
              have hw10 : Below w.heap.size w W10 := by rw [hW10]; exact hw9.setCell (by show w.heap.size ≤ B8; omega) _
              have hR10 : Row 46 W10 gR cur := (hRow.below hb69 hRow6).at (hb9 gR (by omega))
              have hF9 := hFl.mono (T := fun b => S b ∧ b < w.heap.size) (w' := w9) (fun _ h _ => h) fun b h hlt => hb69.block b hlt
              have hF10 := hF9.mono (T := fun b => S b ∧ b < w.heap.size) (w' := W10) (fun _ h _ => h) fun b h _ => hb9 b (by have := h.2; omega)
              have hRL10 : Row 3 W10 gI curL := hRL.at (hb9 gI (by omega))
              have hlfok : ∀ y ∈ lf, IntOK y := by
                intro y hy
                rw [Hlfw.out] at hy
                have h1 := hgd.pos y (withoutL_mem.1 hy).1
                have h2 := hgood.alen
                exact ⟨by omega, by omega⟩
              have hsl : ∀ T : Nat → Prop, T gI → Seq intE T W10 (.slice (some ⟨gI, 0, none⟩) lf.length capI) lf := by
                intro T hT
                refine hRL10.seq rfl (by omega) hcIm (by omega) hT fun t y hy => ?_
                have ht := (List.getElem?_eq_some_iff.1 hy).1
                refine ⟨[.int .i64 y], ⟨rfl, hlfok y (List.mem_of_getElem? hy)⟩, fun i hi => ?_⟩
                obtain rfl : i = 0 := by have : i < 1 := hi; omega
                rw [show t * intE.sz + 0 = t by simp [intE], hcellL t ht]
                rw [List.getElem?_eq_getElem ht] at hy
                simp at hy; simp [hy]
              have hot := hn.bnd.at hw10
              have hlen100 : l.length ≤ 1000000 := by omega
              have hrule : ∀ T : Nat → Prop, T gI → (∀ b, S b ∧ b < w.heap.size → T b) → RuleV T W10 (.agg #[.int .i64 g.rules[k].head, .slice (some ⟨gI, 0, none⟩) lf.length capI, .slice na g.rules[k].neg.length nc]) x := by
                intro T hT hT2
                rw [Hx.out]
                exact ⟨_, _, rfl, hok, hsl T hT, hot.mono (fun b h _ => hT2 b h) (fun _ _ _ => rfl)⟩
              have hsearch := Lib.hid (search_spec (w := W10) ((hF10.mono (T := fun b => (S b ∧ b < w.heap.size) ∨ b = gR) (fun b h _ => .inl h) fun _ _ _ => rfl).seq hR10 (by omega) hcapm (by omega) (.inr rfl)) (hrule (fun b => True) trivial fun _ _ => trivial) hlS hlen100)
              have j0 : W10.cell? ⟨w.heap.size, 0, none⟩ = some (.slice aa g.atoms.length ac) := (World.cell?_of_block (w := w9) (hb9 _ (by omega))).trans g0
              have j7 : W10.cell? ⟨w.heap.size + 1 + 1, 0, none⟩ = some (.slice none 0 0) := (World.cell?_of_block (w := w9) (hb9 _ (by omega))).trans g7
              have j8 : W10.cell? ⟨w.heap.size + 1 + 1, 1, none⟩ = some (.slice none 0 0) := (World.cell?_of_block (w := w9) (hb9 _ (by omega))).trans g8
              have j9 : W10.frozen? ⟨w.heap.size + 1 + 1, 0, none⟩ = false := (World.frozen?_of_block (w := w9) (hb9 _ (by omega))).trans g9
              have j10 : W10.frozen? ⟨w.heap.size + 1 + 1, 1, none⟩ = false := (World.frozen?_of_block (w := w9) (hb9 _ (by omega))).trans g10
              have R810 : Row 46 W10 B8 [.int .i64 g.rules[k].head, .slice (some ⟨gI, 0, none⟩) lf.length capI, .slice na g.rules[k].neg.length nc] := by rw [hW10]; exact R89.set 1 _
              have m0 := R810.cell (j := 0) (by simp)
              have m1 := R810.cell (j := 1) (by simp)
              have m2 := R810.cell (j := 2) (by simp)
              simp only [List.getElem_cons_zero, List.getElem_cons_succ] at m0 m1 m2
              obtain ⟨bb, hbb⟩ : ∃ bb, bb = decide (x ∈ l) := ⟨_, rfl⟩
              rw [← hbb] at hsearch
              obtain ⟨at_, hat⟩ : ∃ at_, at_ = insAt x l := ⟨_, rfl⟩
              rw [← hat] at hsearch
              have hatl : at_ ≤ l.length := by rw [hat]; exact insAt_le x l
              have Hat := Lib.hid hat
              have Hbb := Lib.hid hbb
              rw [← hW10]
              have hgi10 : gI < W10.heap.size := hRL10.lt
              have hgr10 : gR < W10.heap.size := hR10.lt
              have h810 : B8 < W10.heap.size := R810.lt
              have hs10 : w.heap.size + 1 + 1 < W10.heap.size := by omega
              clear hat hbb hW10 hz10
              refine hsearch.out.mono ?_
              rintro e w11 ⟨rfl, hb11⟩
              have hz11 := hb11.size
              have p0 := (hb11.cell (p := ⟨w.heap.size, 0, none⟩) (by simp <;> omega)).trans j0
              have p7 := (hb11.cell (p := ⟨w.heap.size + 1 + 1, 0, none⟩) hs10).trans j7
              have p8 := (hb11.cell (p := ⟨w.heap.size + 1 + 1, 1, none⟩) hs10).trans j8
              have p9 := (hb11.frozen (p := ⟨w.heap.size + 1 + 1, 0, none⟩) hs10).trans j9
              have p10 := (hb11.frozen (p := ⟨w.heap.size + 1 + 1, 1, none⟩) hs10).trans j10
              have o0 := (hb11.cell (p := ⟨B8, 0, none⟩) h810).trans m0
              have o1 := (hb11.cell (p := ⟨B8, 1, none⟩) h810).trans m1
              have o2 := (hb11.cell (p := ⟨B8, 2, none⟩) h810).trans m2
              have hw11 : Below w.heap.size w w11 := hw10.trans (hb11.mono (by omega))
              cases bb
              · have hout : ¬ x ∈ l := by simpa using Hbb.out.symm
                have Hout := Lib.hid hout
                clear hout
                have hV : Row 46 (w11.alloc (.cells #[.int .i64 g.rules[k].head, .slice (some ⟨gI, 0, none⟩) lf.length capI, .slice na g.rules[k].neg.length nc] 46)) w11.heap.size [.int .i64 g.rules[k].head, .slice (some ⟨gI, 0, none⟩) lf.length capI, .slice na g.rules[k].neg.length nc] := Row.new _ _ _ rfl
                have hRi : Row 46 (w11.alloc (.cells #[.int .i64 g.rules[k].head, .slice (some ⟨gI, 0, none⟩) lf.length capI, .slice na g.rules[k].neg.length nc] 46)) gR cur := (hR10.below hb11 hgr10).alloc _
                have hins := Lib.hid (insert_spec hRi hcurl hl2 hatl hcapm hV (by omega) ⟨rfl, rfl, rfl⟩ hF10.one)
                go_wp2_with fail
                refine hins.out.mono ?_
                rintro e w12 ⟨rfl, hG12, cur12, hR12, hcl12, htk12⟩
                have hz12 : w11.heap.size + 1 ≤ w12.heap.size := by simpa using hG12.size
                have hb1112 : ∀ b, b < w11.heap.size → b ≠ gR → w12.heap[b]? = w11.heap[b]? := fun b hb hne => (hG12.block b (by simp; omega) (fun e => hne (by simpa using e))).trans (Below.heap_alloc _ _ _ hb)
                have hw12 : Below w.heap.size w w12 := hw11.trans (grown_below_alloc hG12 (by omega) (by omega))
                have n0 : w12.cell? ⟨w.heap.size, 0, none⟩ = some (.slice aa g.atoms.length ac) := (World.cell?_of_block (w := w11) (hb1112 w.heap.size (by omega) (by omega))).trans p0
                have n7 : w12.cell? ⟨w.heap.size + 1 + 1, 0, none⟩ = some (.slice none 0 0) := (World.cell?_of_block (w := w11) (hb1112 (w.heap.size + 1 + 1) (by omega) (by omega))).trans p7
                have n8 : w12.cell? ⟨w.heap.size + 1 + 1, 1, none⟩ = some (.slice none 0 0) := (World.cell?_of_block (w := w11) (hb1112 (w.heap.size + 1 + 1) (by omega) (by omega))).trans p8
                have n9 : w12.frozen? ⟨w.heap.size + 1 + 1, 0, none⟩ = false := (World.frozen?_of_block (w := w11) (hb1112 (w.heap.size + 1 + 1) (by omega) (by omega))).trans p9
                have n10 : w12.frozen? ⟨w.heap.size + 1 + 1, 1, none⟩ = false := (World.frozen?_of_block (w := w11) (hb1112 (w.heap.size + 1 + 1) (by omega) (by omega))).trans p10
                have hmv : ∀ b, ((S b ∨ w.heap.size ≤ b) ∧ b ≠ w.heap.size + 1 + 1) ∧ b ≠ gR → b < W10.heap.size → w12.heap[b]? = W10.heap[b]? := fun b h hlt => (hb1112 b (by omega) h.2).trans (hb11.block b hlt)
                have hF12 : FlatR (fun b => (S b ∨ w.heap.size ≤ b) ∧ b ≠ w.heap.size + 1 + 1) w12 (cur.take (l.length * 3)) l :=
                  hF10.mono (fun b h _ => ⟨.inl h.1, by have := h.2; omega⟩) fun b h hlt => hmv b ⟨⟨.inl h.1, by have := h.2; omega⟩, by have := h.2; omega⟩ hlt
                have hX12 : FlatR (fun b => (S b ∨ w.heap.size ≤ b) ∧ b ≠ w.heap.size + 1 + 1) w12 [.int .i64 g.rules[k].head, .slice (some ⟨gI, 0, none⟩) lf.length capI, .slice na g.rules[k].neg.length nc] [x] := by
                  obtain ⟨p1, p2, he, hh1, hh2, hh3⟩ := hrule (fun b => ((S b ∨ w.heap.size ≤ b) ∧ b ≠ w.heap.size + 1 + 1) ∧ b ≠ gR) ⟨⟨.inr (by omega), by omega⟩, by omega⟩ fun b h => ⟨⟨.inl h.1, by have := h.2; omega⟩, by have := h.2; omega⟩
                  refine ⟨rfl, fun t r ht => ?_⟩
                  obtain rfl : t = 0 := by have := (List.getElem?_eq_some_iff.1 ht).1; simp at this; omega
                  simp at ht; subst ht
                  simp only [Value.agg.injEq, Array.mk.injEq, List.cons.injEq, and_true] at he
                  refine ⟨[.int .i64 x.head, p1, p2], ⟨p1, p2, rfl, hh1, hh2.mono (fun b h _ => h.1) (fun b h hlt => hmv b h hlt), hh3.mono (fun b h _ => h.1) (fun b h hlt => hmv b h hlt)⟩, fun i hi => ?_⟩
                  rw [he.1, he.2.1, he.2.2]
                  simp
                have hrl : (l.take at_ ++ [x] ++ l.drop at_).length = l.length + 1 := by simp; omega
                have hFl3 : FlatR (fun b => (S b ∨ w.heap.size ≤ b) ∧ b ≠ w.heap.size + 1 + 1) w12 (cur12.take ((l.length + 1) * 3)) (l.take at_ ++ [x] ++ l.drop at_) := by
                  rw [htk12]
                  have h5 := ((hF12.take at_ hatl).append hX12).append (hF12.drop at_)
                  rw [List.take_take, show min (at_ * 3) (l.length * 3) = at_ * 3 by omega] at h5
                  exact h5
                rw [← hrl] at hFl3
                have hseq := FlatR.seq (cap := cap) hR12 hFl3 (by rw [hrl]; omega) hcapm (by rw [hrl]; omega) ⟨.inr (by omega), by omega⟩
                have hh := hend w12 _ (some ⟨gR, 0, none⟩) cap hw12 hseq (by rw [Hd.out, if_neg Hout.out, ← Hat.out])
                rw [hrl] at hh
                clear hseq hFl3 hX12 hF12 hmv
                go_wp2_with fail
                refine bodyPost_ret (v := .tuple #[.agg #[.slice aa g.atoms.length ac, .slice (some ⟨gR, 0, none⟩) (l.length + 1) cap], .bool true]) (by simp [results, Try.results14, go_sem, n7, n8]) rfl ⟨_, rfl, ?_, hh.out⟩
                exact (hw12.setCell (by show w.heap.size ≤ w.heap.size + 1 + 1; omega) _).setCell (by show w.heap.size ≤ w.heap.size + 1 + 1; omega) _
              · have hin : x ∈ l := by simpa using Hbb.out.symm
                have Hin := Lib.hid hin
                clear hin
                go_wp2_with fail
                have hh := hend w11 l (some ⟨gR, 0, none⟩) cap hw11 (((hF10.mono (T := fun b => (S b ∨ w.heap.size ≤ b) ∧ b ≠ w.heap.size + 1 + 1) (fun b h _ => ⟨.inl h.1, by have := h.2; omega⟩) fun _ _ _ => rfl).seq hR10 (by omega) hcapm (by omega) ⟨.inr (by omega), by omega⟩).at hb11) (by rw [Hd.out, if_pos Hin.out])
                refine bodyPost_ret (v := .tuple #[.agg #[.slice aa g.atoms.length ac, .slice (some ⟨gR, 0, none⟩) l.length cap], .bool true]) (by simp [results, Try.results14, go_sem, p7, p8]) rfl ⟨_, rfl, ?_, hh.out⟩
                exact (hw11.setCell (by show w.heap.size ≤ w.heap.size + 1 + 1; omega) _).setCell (by show w.heap.size ≤ w.heap.size + 1 + 1; omega) _
            · --N
              have hsd : sideL ((j : Int) + 1) g.rules[k] = g.rules[k].neg := by
                unfold sideL
                have h1 := Hnv.out
                unfold kNeg at h1
                by_cases h2 : j = 0 ∨ j = 1
                · rw [if_pos (by omega)]
                · simp [h2] at h1
              have hsne : g.rules[k].neg ≠ [] := by
                intro e
                obtain ⟨x, hx⟩ := List.exists_mem_of_length_pos Hmp
                have := (goneL_mem.1 hx).1
                rw [hsd, e] at this
                simp at this
              have hex : g.rules[k].neg.any (isGone g (followsL g) ((j : Int) + 1)) = true := by
                rw [← hsd, any_gone]; simpa using Hmp
              obtain ⟨lf, hlf⟩ : ∃ lf, lf = stayL (isGone g (followsL g) ((j : Int) + 1)) g.rules[k].neg g.rules[k].neg.length := ⟨_, rfl⟩
              have hlfw : lf = withoutL g.rules[k].neg (goneL g (followsL g) ((j : Int) + 1) g.rules[k]) := by
                rw [hlf]; have := stay_without g (followsL g) ((j : Int) + 1) g.rules[k]; rw [hsd] at this; exact this
              obtain ⟨x, hx⟩ : ∃ x : Rule, x = ⟨g.rules[k].head, g.rules[k].pos, lf⟩ := ⟨_, rfl⟩
              have hxl : x = leftR j g.rules[k] (goneL g (followsL g) ((j : Int) + 1) g.rules[k]) := by
                have h0 := Hgv.out
                have h1 := Hnv.out
                rw [hx, hlfw]
                unfold kGoes at h0; unfold kNeg at h1
                unfold leftR
                rw [if_pos (by simp at h0 h1; omega)]
              have hd := doL_stays hj hk hgood.sort Hmp Hgv.out.symm hxl Hl.out
              have hside := hn.at hw6
              have hmf : ∀ (fn : Fn) (first cap : Array Value) (w : World), (Instr.makeFunc fn first cap).run Try.prog w = .ok (.func fn first cap) w := fun _ _ _ _ => rfl
              have Hlf := Lib.hid hlf
              have Hlfw := Lib.hid hlfw
              have Hx := Lib.hid hx
              have Hd := Lib.hid hd
              have hllf : lf.length ≤ g.rules[k].neg.length := by rw [hlf]; exact stayL_len _ _ _
              have hgl := hgd.nlen
              clear hsd hlf hlfw hx hxl hd
              go_wp2_with fail
              refine side_spec.mono ?_
              rintro e w7 ⟨rfl, hb7⟩
              have hz7 := hb7.size
              have hw7 : Below w.heap.size w w7 := hw6.trans (hb7.mono (by omega))
              have hspec := cloneI_spec (hn.at hw7) hsne hgl
              go_wp2_with fail
              refine hspec.mono ?_
              rintro e w8 ⟨ov, rfl, hb8, gI, capI, curI, rfl, hgI, hcI, hcIm, hcIl, hRI, hcellI⟩
              have hb17 : Below w1.heap.size w1 w7 := hb16.trans (hb7.mono hz6)
              have hclo : Clo (fun b => b ≠ B6 ∧ b ≠ B7 ∧ b ≠ B8) w7 g j B7 B6 := ⟨hj, _, _, _, _, _, _, _, HM.kd.below hb17 h7l, (HK j hj).at hb17, hst.below hb17 h6l, HS.at hb17⟩
              have hrange : ∀ y ∈ g.rules[k].neg, 0 ≤ y ∧ y < (g.atoms.length : Int) := hgd.neg
              have hokI : ∀ y ∈ g.rules[k].neg, IntOK y := by
                intro y hy; have h1 := hrange y hy; have h2 := hgood.alen
                exact ⟨by omega, by omega⟩
              have hspec2 := deleteF_spec (w0 := w7) hclo hb8 hgI hRI hcIl hcI hcIm hgl hcellI hrange hokI hex
              rw [← Hlf.out] at hspec2
              have Hspec2 := Lib.hid hspec2
              clear hspec hspec2 hcellI hrange hokI hclo hex hsne
              go_wp2_with fail
              refine Hspec2.out.mono ?_
              rintro e w9 ⟨rfl, hb79, hfr9, hsz9, curL, hRL, hcellL⟩
              have hz9 := hb79.size
              have hb69 : Below w6.heap.size w6 w9 := hb7.trans (hb79.mono hz7)
              have hw9 : Below w.heap.size w w9 := hw6.trans (hb69.mono (by omega))
              have g0 := (hb69.cell (p := ⟨w.heap.size, 0, none⟩) (by simp <;> omega)).trans v0
              have g7 := (hb69.cell (p := ⟨w.heap.size + 1 + 1, 0, none⟩) (by simp <;> omega)).trans v7
              have g8 := (hb69.cell (p := ⟨w.heap.size + 1 + 1, 1, none⟩) (by simp <;> omega)).trans v8
              have g9 := (hb69.frozen (p := ⟨w.heap.size + 1 + 1, 0, none⟩) (by simp <;> omega)).trans v9
              have g10 := (hb69.frozen (p := ⟨w.heap.size + 1 + 1, 1, none⟩) (by simp <;> omega)).trans v10
              have e1 := (hb69.cell (p := ⟨B7, 1, none⟩) (by simp <;> omega)).trans x1
              have R89 := R8.below hb69 (by omega)
              have z0 := R89.cell (j := 0) (by simp)
              have z1 := R89.cell (j := 1) (by simp)
              have z2 := R89.cell (j := 2) (by simp)
              have zf := R89.frozen 2
              simp only [List.getElem_cons_zero, List.getElem_cons_succ] at z0 z1 z2
              have hn1 : w.heap.size ≠ B8 := by omega
              have hn2 : w.heap.size + 1 + 1 ≠ B8 := by omega
              go_wp2_with fail
              obtain ⟨W10, hW10⟩ : ∃ W10, W10 = w9.setCell ⟨B8, 2, none⟩ (.slice (some ⟨gI, 0, none⟩) lf.length capI) := ⟨_, rfl⟩
              have hz10 : W10.heap.size = w9.heap.size := by rw [hW10]; simp
              have hb9 : ∀ b, b ≠ B8 → W10.heap[b]? = w9.heap[b]? := fun b h => by rw [hW10]; exact Below.heap_setCell _ _ _ _ h
              have hw10 : Below w.heap.size w W10 := by rw [hW10]; exact hw9.setCell (by show w.heap.size ≤ B8; omega) _
              have hR10 : Row 46 W10 gR cur := (hRow.below hb69 hRow6).at (hb9 gR (by omega))
              have hF9 := hFl.mono (T := fun b => S b ∧ b < w.heap.size) (w' := w9) (fun _ h _ => h) fun b h hlt => hb69.block b hlt
              have hF10 := hF9.mono (T := fun b => S b ∧ b < w.heap.size) (w' := W10) (fun _ h _ => h) fun b h _ => hb9 b (by have := h.2; omega)
              have hRL10 : Row 3 W10 gI curL := hRL.at (hb9 gI (by omega))
              have hlfok : ∀ y ∈ lf, IntOK y := by
                intro y hy
                rw [Hlfw.out] at hy
                have h1 := hgd.neg y (withoutL_mem.1 hy).1
                have h2 := hgood.alen
                exact ⟨by omega, by omega⟩
              have hsl : ∀ T : Nat → Prop, T gI → Seq intE T W10 (.slice (some ⟨gI, 0, none⟩) lf.length capI) lf := by
                intro T hT
                refine hRL10.seq rfl (by omega) hcIm (by omega) hT fun t y hy => ?_
                have ht := (List.getElem?_eq_some_iff.1 hy).1
                refine ⟨[.int .i64 y], ⟨rfl, hlfok y (List.mem_of_getElem? hy)⟩, fun i hi => ?_⟩
                obtain rfl : i = 0 := by have : i < 1 := hi; omega
                rw [show t * intE.sz + 0 = t by simp [intE], hcellL t ht]
                rw [List.getElem?_eq_getElem ht] at hy
                simp at hy; simp [hy]
              have hot := hp.bnd.at hw10
              have hlen100 : l.length ≤ 1000000 := by omega
              have hrule : ∀ T : Nat → Prop, T gI → (∀ b, S b ∧ b < w.heap.size → T b) → RuleV T W10 (.agg #[.int .i64 g.rules[k].head, .slice pa g.rules[k].pos.length pc, .slice (some ⟨gI, 0, none⟩) lf.length capI]) x := by
                intro T hT hT2
                rw [Hx.out]
                exact ⟨_, _, rfl, hok, hot.mono (fun b h _ => hT2 b h) (fun _ _ _ => rfl), hsl T hT⟩
              have hsearch := Lib.hid (search_spec (w := W10) ((hF10.mono (T := fun b => (S b ∧ b < w.heap.size) ∨ b = gR) (fun b h _ => .inl h) fun _ _ _ => rfl).seq hR10 (by omega) hcapm (by omega) (.inr rfl)) (hrule (fun b => True) trivial fun _ _ => trivial) hlS hlen100)
              have j0 : W10.cell? ⟨w.heap.size, 0, none⟩ = some (.slice aa g.atoms.length ac) := (World.cell?_of_block (w := w9) (hb9 _ (by omega))).trans g0
              have j7 : W10.cell? ⟨w.heap.size + 1 + 1, 0, none⟩ = some (.slice none 0 0) := (World.cell?_of_block (w := w9) (hb9 _ (by omega))).trans g7
              have j8 : W10.cell? ⟨w.heap.size + 1 + 1, 1, none⟩ = some (.slice none 0 0) := (World.cell?_of_block (w := w9) (hb9 _ (by omega))).trans g8
              have j9 : W10.frozen? ⟨w.heap.size + 1 + 1, 0, none⟩ = false := (World.frozen?_of_block (w := w9) (hb9 _ (by omega))).trans g9
              have j10 : W10.frozen? ⟨w.heap.size + 1 + 1, 1, none⟩ = false := (World.frozen?_of_block (w := w9) (hb9 _ (by omega))).trans g10
              have R810 : Row 46 W10 B8 [.int .i64 g.rules[k].head, .slice pa g.rules[k].pos.length pc, .slice (some ⟨gI, 0, none⟩) lf.length capI] := by rw [hW10]; exact R89.set 2 _
              have m0 := R810.cell (j := 0) (by simp)
              have m1 := R810.cell (j := 1) (by simp)
              have m2 := R810.cell (j := 2) (by simp)
              simp only [List.getElem_cons_zero, List.getElem_cons_succ] at m0 m1 m2
              obtain ⟨bb, hbb⟩ : ∃ bb, bb = decide (x ∈ l) := ⟨_, rfl⟩
              rw [← hbb] at hsearch
              obtain ⟨at_, hat⟩ : ∃ at_, at_ = insAt x l := ⟨_, rfl⟩
              rw [← hat] at hsearch
              have hatl : at_ ≤ l.length := by rw [hat]; exact insAt_le x l
              have Hat := Lib.hid hat
              have Hbb := Lib.hid hbb
              rw [← hW10]
              have hgi10 : gI < W10.heap.size := hRL10.lt
              have hgr10 : gR < W10.heap.size := hR10.lt
              have h810 : B8 < W10.heap.size := R810.lt
              have hs10 : w.heap.size + 1 + 1 < W10.heap.size := by omega
              clear hat hbb hW10 hz10
              refine hsearch.out.mono ?_
              rintro e w11 ⟨rfl, hb11⟩
              have hz11 := hb11.size
              have p0 := (hb11.cell (p := ⟨w.heap.size, 0, none⟩) (by simp <;> omega)).trans j0
              have p7 := (hb11.cell (p := ⟨w.heap.size + 1 + 1, 0, none⟩) hs10).trans j7
              have p8 := (hb11.cell (p := ⟨w.heap.size + 1 + 1, 1, none⟩) hs10).trans j8
              have p9 := (hb11.frozen (p := ⟨w.heap.size + 1 + 1, 0, none⟩) hs10).trans j9
              have p10 := (hb11.frozen (p := ⟨w.heap.size + 1 + 1, 1, none⟩) hs10).trans j10
              have o0 := (hb11.cell (p := ⟨B8, 0, none⟩) h810).trans m0
              have o1 := (hb11.cell (p := ⟨B8, 1, none⟩) h810).trans m1
              have o2 := (hb11.cell (p := ⟨B8, 2, none⟩) h810).trans m2
              have hw11 : Below w.heap.size w w11 := hw10.trans (hb11.mono (by omega))
              cases bb
              · have hout : ¬ x ∈ l := by simpa using Hbb.out.symm
                have Hout := Lib.hid hout
                clear hout
                have hV : Row 46 (w11.alloc (.cells #[.int .i64 g.rules[k].head, .slice pa g.rules[k].pos.length pc, .slice (some ⟨gI, 0, none⟩) lf.length capI] 46)) w11.heap.size [.int .i64 g.rules[k].head, .slice pa g.rules[k].pos.length pc, .slice (some ⟨gI, 0, none⟩) lf.length capI] := Row.new _ _ _ rfl
                have hRi : Row 46 (w11.alloc (.cells #[.int .i64 g.rules[k].head, .slice pa g.rules[k].pos.length pc, .slice (some ⟨gI, 0, none⟩) lf.length capI] 46)) gR cur := (hR10.below hb11 hgr10).alloc _
                have hins := Lib.hid (insert_spec hRi hcurl hl2 hatl hcapm hV (by omega) ⟨rfl, rfl, rfl⟩ hF10.one)
                go_wp2_with fail
                refine hins.out.mono ?_
                rintro e w12 ⟨rfl, hG12, cur12, hR12, hcl12, htk12⟩
                have hz12 : w11.heap.size + 1 ≤ w12.heap.size := by simpa using hG12.size
                have hb1112 : ∀ b, b < w11.heap.size → b ≠ gR → w12.heap[b]? = w11.heap[b]? := fun b hb hne => (hG12.block b (by simp; omega) (fun e => hne (by simpa using e))).trans (Below.heap_alloc _ _ _ hb)
                have hw12 : Below w.heap.size w w12 := hw11.trans (grown_below_alloc hG12 (by omega) (by omega))
                have n0 : w12.cell? ⟨w.heap.size, 0, none⟩ = some (.slice aa g.atoms.length ac) := (World.cell?_of_block (w := w11) (hb1112 w.heap.size (by omega) (by omega))).trans p0
                have n7 : w12.cell? ⟨w.heap.size + 1 + 1, 0, none⟩ = some (.slice none 0 0) := (World.cell?_of_block (w := w11) (hb1112 (w.heap.size + 1 + 1) (by omega) (by omega))).trans p7
                have n8 : w12.cell? ⟨w.heap.size + 1 + 1, 1, none⟩ = some (.slice none 0 0) := (World.cell?_of_block (w := w11) (hb1112 (w.heap.size + 1 + 1) (by omega) (by omega))).trans p8
                have n9 : w12.frozen? ⟨w.heap.size + 1 + 1, 0, none⟩ = false := (World.frozen?_of_block (w := w11) (hb1112 (w.heap.size + 1 + 1) (by omega) (by omega))).trans p9
                have n10 : w12.frozen? ⟨w.heap.size + 1 + 1, 1, none⟩ = false := (World.frozen?_of_block (w := w11) (hb1112 (w.heap.size + 1 + 1) (by omega) (by omega))).trans p10
                have hmv : ∀ b, ((S b ∨ w.heap.size ≤ b) ∧ b ≠ w.heap.size + 1 + 1) ∧ b ≠ gR → b < W10.heap.size → w12.heap[b]? = W10.heap[b]? := fun b h hlt => (hb1112 b (by omega) h.2).trans (hb11.block b hlt)
                have hF12 : FlatR (fun b => (S b ∨ w.heap.size ≤ b) ∧ b ≠ w.heap.size + 1 + 1) w12 (cur.take (l.length * 3)) l :=
                  hF10.mono (fun b h _ => ⟨.inl h.1, by have := h.2; omega⟩) fun b h hlt => hmv b ⟨⟨.inl h.1, by have := h.2; omega⟩, by have := h.2; omega⟩ hlt
                have hX12 : FlatR (fun b => (S b ∨ w.heap.size ≤ b) ∧ b ≠ w.heap.size + 1 + 1) w12 [.int .i64 g.rules[k].head, .slice pa g.rules[k].pos.length pc, .slice (some ⟨gI, 0, none⟩) lf.length capI] [x] := by
                  obtain ⟨p1, p2, he, hh1, hh2, hh3⟩ := hrule (fun b => ((S b ∨ w.heap.size ≤ b) ∧ b ≠ w.heap.size + 1 + 1) ∧ b ≠ gR) ⟨⟨.inr (by omega), by omega⟩, by omega⟩ fun b h => ⟨⟨.inl h.1, by have := h.2; omega⟩, by have := h.2; omega⟩
                  refine ⟨rfl, fun t r ht => ?_⟩
                  obtain rfl : t = 0 := by have := (List.getElem?_eq_some_iff.1 ht).1; simp at this; omega
                  simp at ht; subst ht
                  simp only [Value.agg.injEq, Array.mk.injEq, List.cons.injEq, and_true] at he
                  refine ⟨[.int .i64 x.head, p1, p2], ⟨p1, p2, rfl, hh1, hh2.mono (fun b h _ => h.1) (fun b h hlt => hmv b h hlt), hh3.mono (fun b h _ => h.1) (fun b h hlt => hmv b h hlt)⟩, fun i hi => ?_⟩
                  rw [he.1, he.2.1, he.2.2]
                  simp
                have hrl : (l.take at_ ++ [x] ++ l.drop at_).length = l.length + 1 := by simp; omega
                have hFl3 : FlatR (fun b => (S b ∨ w.heap.size ≤ b) ∧ b ≠ w.heap.size + 1 + 1) w12 (cur12.take ((l.length + 1) * 3)) (l.take at_ ++ [x] ++ l.drop at_) := by
                  rw [htk12]
                  have h5 := ((hF12.take at_ hatl).append hX12).append (hF12.drop at_)
                  rw [List.take_take, show min (at_ * 3) (l.length * 3) = at_ * 3 by omega] at h5
                  exact h5
                rw [← hrl] at hFl3
                have hseq := FlatR.seq (cap := cap) hR12 hFl3 (by rw [hrl]; omega) hcapm (by rw [hrl]; omega) ⟨.inr (by omega), by omega⟩
                have hh := hend w12 _ (some ⟨gR, 0, none⟩) cap hw12 hseq (by rw [Hd.out, if_neg Hout.out, ← Hat.out])
                rw [hrl] at hh
                clear hseq hFl3 hX12 hF12 hmv
                go_wp2_with fail
                refine bodyPost_ret (v := .tuple #[.agg #[.slice aa g.atoms.length ac, .slice (some ⟨gR, 0, none⟩) (l.length + 1) cap], .bool true]) (by simp [results, Try.results14, go_sem, n7, n8]) rfl ⟨_, rfl, ?_, hh.out⟩
                exact (hw12.setCell (by show w.heap.size ≤ w.heap.size + 1 + 1; omega) _).setCell (by show w.heap.size ≤ w.heap.size + 1 + 1; omega) _
              · have hin : x ∈ l := by simpa using Hbb.out.symm
                have Hin := Lib.hid hin
                clear hin
                go_wp2_with fail
                have hh := hend w11 l (some ⟨gR, 0, none⟩) cap hw11 (((hF10.mono (T := fun b => (S b ∨ w.heap.size ≤ b) ∧ b ≠ w.heap.size + 1 + 1) (fun b h _ => ⟨.inl h.1, by have := h.2; omega⟩) fun _ _ _ => rfl).seq hR10 (by omega) hcapm (by omega) ⟨.inr (by omega), by omega⟩).at hb11) (by rw [Hd.out, if_pos Hin.out])
                refine bodyPost_ret (v := .tuple #[.agg #[.slice aa g.atoms.length ac, .slice (some ⟨gR, 0, none⟩) l.length cap], .bool true]) (by simp [results, Try.results14, go_sem, p7, p8]) rfl ⟨_, rfl, ?_, hh.out⟩
                exact (hw11.setCell (by show w.heap.size ≤ w.heap.size + 1 + 1; omega) _).setCell (by show w.heap.size ≤ w.heap.size + 1 + 1; omega) _
          · have hd := doL_goes hj hk hgood.sort Hmp hgv.symm
            clear hgv
            have Hd := Lib.hid hd
            clear hd
            go_wp2_with fail
            have hh := hend w6 l (some ⟨gR, 0, none⟩) cap hw6 ((hFl.mono (T := fun b => (S b ∨ w.heap.size ≤ b) ∧ b ≠ w.heap.size + 1 + 1) (fun b h _ => ⟨.inl h.1, by have := h.2; omega⟩) fun _ _ _ => rfl).seq hRow (by omega) hcapm (by omega) ⟨.inr (by omega), by omega⟩) (by rw [Hd.out, Hl.out])
            refine bodyPost_ret (v := .tuple #[.agg #[.slice aa g.atoms.length ac, .slice (some ⟨gR, 0, none⟩) l.length cap], .bool true]) (by simp [results, Try.results14, go_sem, v7, v8]) rfl ⟨_, rfl, ?_, hh.out⟩
            exact (hw6.setCell (by show w.heap.size ≤ w.heap.size + 1 + 1; omega) _).setCell (by show w.heap.size ≤ w.heap.size + 1 + 1; omega) _
      · have hmd : decide (0 < m) = false := by simpa using hm0
        have hd0 := doL_none (g := g) (s := ((j : Int) + 1, (k : Int))) (r := g.rules[k]) (by simp only; omega) (by simp [hk]) (by rw [← Hm.out]; omega)
        have Hd := Lib.hid hd0
        clear hd0
        go_wp2_with fail
        refine hcan.out.mono ?_
        rintro e w2 ⟨rfl, hb2⟩
        have hz2 := hb2.size
        have s0 := (hb2.cell (p := ⟨w.heap.size, 0, none⟩) hx0).trans r0
        have s1 := (hb2.cell (p := ⟨w.heap.size, 1, none⟩) hx0).trans r1
        have s7 := (hb2.cell (p := ⟨w.heap.size + 1 + 1, 0, none⟩) hx2).trans r7
        have s8 := (hb2.cell (p := ⟨w.heap.size + 1 + 1, 1, none⟩) hx2).trans r8
        have s9 := (hb2.frozen (p := ⟨w.heap.size + 1 + 1, 0, none⟩) hx2).trans r9
        have s10 := (hb2.frozen (p := ⟨w.heap.size + 1 + 1, 1, none⟩) hx2).trans r10
        have hwc2 : Below w.heap.size w w2 := hwc.trans (hb2.mono (by omega))
        go_wp2_with fail
        refine bodyPost_ret (v := .tuple #[.agg #[Value.slice aa g.atoms.length ac, Value.slice (some ⟨b, off, none⟩) g.rules.length rc], .bool false]) (by simp [results, Try.results14, go_sem, s7, s8]) rfl ⟨_, rfl, ?_, _, by rw [Hd.out], ?_⟩
        · exact (hwc2.setCell (by show w.heap.size ≤ w.heap.size + 1 + 1; omega) _).setCell (by show w.heap.size ≤ w.heap.size + 1 + 1; omega) _
        · rw [Hd.out]
          refine hg'.mono (fun _ h _ => .inl h) fun b _ hb => ?_
          rw [Below.heap_setCell _ _ _ _ (by simp; omega), Below.heap_setCell _ _ _ _ (by simp; omega)]
          exact hwc2.block b hb
end Go.Proofs.Ytdbennmbbmoflaa
