/-
  Layer 16, the program: is a program right (ground.Right)?
-/
import Derived.Test.YtaedgpcmkagpeaaGreatGsV
import Derived.Test.YtaedgpcmkagpeaaGreatGsF
import Derived.Laws.EntriesVeiled
namespace Go.Proofs.YtaedgpcmkagpeaaGreat
open Go Go.RowKit

def idxZ {α : Type} (p : α → Bool) (l : List α) : Int := match l.findIdx? p with
  | some i => (i : Int)
  | none => -1
theorem idxZ_hit {α : Type} {p : α → Bool} {l : List α} {k : Nat} (hk : k < l.length) (h : p l[k] = true) (hno : ∀ j (hj : j < l.length), j < k → p l[j] = false) : idxZ p l = (k : Int) := by
  unfold idxZ
  rw [List.findIdx?_eq_some_iff_getElem.2 ⟨hk, h, fun j hj => by rw [hno j (by omega) hj]; simp⟩]
theorem idxZ_miss {α : Type} {p : α → Bool} {l : List α} (hno : ∀ j (hj : j < l.length), p l[j] = false) : idxZ p l = -1 := by
  unfold idxZ
  rw [List.findIdx?_eq_none_iff.2 fun x hx => by
    obtain ⟨j, hj, rfl⟩ := List.mem_iff_getElem.1 hx
    exact hno j hj]
theorem idxZ_nat {α : Type} {p : α → Bool} {l : List α} {k : Nat} (h : idxZ p l = (k : Int)) : ∃ hk : k < l.length, p l[k] = true ∧ ∀ j (hj : j < l.length), j < k → p l[j] = false := by
  unfold idxZ at h
  cases hx : l.findIdx? p with
  | none => rw [hx] at h; simp only at h; omega
  | some i =>
    rw [hx] at h
    simp only at h
    obtain rfl : i = k := by omega
    obtain ⟨hk, h1, h2⟩ := List.findIdx?_eq_some_iff_getElem.1 hx
    exact ⟨hk, h1, fun j hj hlt => by simpa using h2 j hlt⟩
theorem idxZ_cases {α : Type} (p : α → Bool) (l : List α) : (idxZ p l = -1 ∧ ∀ j (hj : j < l.length), p l[j] = false) ∨ ∃ k : Nat, ∃ hk : k < l.length, idxZ p l = (k : Int) ∧ p l[k] = true ∧ ∀ j (hj : j < l.length), j < k → p l[j] = false := by
  cases hx : l.findIdx? p with
  | none =>
    left
    refine ⟨by unfold idxZ; rw [hx], fun j hj => ?_⟩
    have := List.findIdx?_eq_none_iff.1 hx _ (List.getElem_mem hj)
    simpa using this
  | some i =>
    right
    obtain ⟨hk, h1, h2⟩ := List.findIdx?_eq_some_iff_getElem.1 hx
    exact ⟨i, hk, by unfold idxZ; rw [hx], h1, fun j hj hlt => by simpa using h2 j hlt⟩
theorem allR_no {n k : Nat} {f : Nat → Bool} (hk : k < n) (h : f k = false) : (List.range n).all f = false := by
  rw [List.all_eq_false]
  exact ⟨k, List.mem_range.2 hk, by rw [h]; simp⟩
theorem allR_yes {n : Nat} {f : Nat → Bool} (h : ∀ j, j < n → f j = true) : (List.range n).all f = true := by
  rw [List.all_eq_true]
  exact fun j hj => h j (List.mem_range.1 hj)
theorem allR_iff {n : Nat} {f : Nat → Bool} : (List.range n).all f = true ↔ ∀ j, j < n → f j = true :=
  ⟨fun h j hj => List.all_eq_true.1 h j (List.mem_range.2 hj), allR_yes⟩

/-! ### Terms with numbered variables -/

theorem any_idx {α : Type} (p : α → Bool) (l : List α) : l.any p = decide (0 ≤ idxZ p l) := by
  rcases idxZ_cases p l with ⟨h, hn⟩ | ⟨k, hk, h, h1, -⟩
  · rw [h, List.any_eq_false.2 fun x hx => by
      obtain ⟨j, hj, rfl⟩ := List.mem_iff_getElem.1 hx
      rw [hn j hj]; simp]
    decide
  · rw [h, List.any_eq_true.2 ⟨_, List.getElem_mem hk, h1⟩]
    simp

/-! ### No atom without variables -/
set_option maxHeartbeats 1600000 in
set_option maxRecDepth 100000 in
theorem oddP_spec {S : Nat → Prop} {w : World} {v : Value} {t : List Cell} (ht : Seq cellE S w v t) :
    Calls Tryz.prog 44 #[v] w (RetV (.bool (!atomG t)) w) := by
  have HT := Lib.hid ht
  obtain ⟨ta, tc, rfl⟩ := ht.shape
  go_enter Tryz.func44, Tryz.ntmps44
  go_wp2_with fail
  refine (RightP_spec (HT.out.at Seq.way)).mono ?_
  rintro e w1 ⟨rfl, hb1⟩
  have B1 := Lib.hid hb1
  clear hb1
  cases hr : rightT t with
  | false =>
    have he := Lib.hid (show atomG t = false by unfold atomG; rw [hr]; rfl)
    clear hr
    go_wp2_with fail
    go_ret
    exact ⟨ret_bool (by rw [he.out]; rfl), B1.out⟩
  | true =>
    have hl0 := (of_decide_eq_true hr : RightT t).pos
    have hk := Lib.hid (show atomG t = (decide (t[0].kind = 3) && groundT t) by rw [atomG_eq, atomB_kind hr hl0])
    obtain ⟨_, _, ee, -, -, -, -, x5⟩ := HT.out.at B1.out
    simp only [Value.slice.injEq, true_and] at ee
    obtain ⟨rfl, rfl⟩ := ee
    obtain ⟨b, o, rfl, -, l1, c0, -⟩ := x5.cell hl0
    simp only [Nat.zero_mul, Nat.add_zero] at c0
    have hll : (0 : Int) < (t.length : Int) := by omega
    obtain ⟨c, hc⟩ : ∃ c, c = t[0] := ⟨_, rfl⟩
    rw [← hc] at c0 hk
    clear hc hr x5
    by_cases h3 : c.kind = 3
    · have hd : (c.kind != 3) = false := by simp [h3]
      have hk2 := Lib.hid (show atomG t = groundT t by rw [hk.out, decide_eq_true h3]; rfl)
      clear h3
      go_wp2_with fail
      refine (GroundP_spec (HT.out.at B1.out)).mono ?_
      rintro e w2 ⟨rfl, hb2⟩
      have B2 := Lib.hid (below_step hb2 B1.out)
      cases hg : groundT t with
      | false =>
        have hh := Lib.hid (show atomG t = false by rw [hk2.out, hg])
        clear hg
        go_wp2_with fail
        go_ret
        exact ⟨ret_bool (by rw [hh.out]; rfl), B2.out⟩
      | true =>
        have hh := Lib.hid (show atomG t = true by rw [hk2.out, hg])
        clear hg
        go_wp2_with fail
        go_ret
        exact ⟨ret_bool (by rw [hh.out]; rfl), B2.out⟩
    · have hd : (c.kind != 3) = true := by simpa using h3
      have hk2 := Lib.hid (show atomG t = false by rw [hk.out, decide_eq_false h3]; rfl)
      clear h3
      go_wp2_with fail
      go_ret
      exact ⟨ret_bool (by rw [hk2.out]; rfl), B1.out⟩

set_option maxHeartbeats 3200000 in
set_option maxRecDepth 100000 in
theorem oddC_idx {S : Nat → Prop} {w : World} {v : Value} {l : List (List Cell)} {p : List Cell → Bool} (hl : Seq (seqE cellE) S w v l)
    (hc : ∀ (W' : World) (U : Nat → Prop) (u : Value), Below w.heap.size w W' → ∀ x ∈ l, Seq cellE U W' u x → Calls Tryz.prog 44 #[u] W' (RetV (.bool (p x)) W')) :
    Calls Tryz.prog 91 #[v, .func (.func 44) #[] #[]] w (RetV (.int .i64 (idxZ p l)) w) := by
  have HL := Lib.hid hl
  have hll : l.length ≤ 140737488355328 := by obtain ⟨_, _, _, _, _, h, _⟩ := hl; exact h
  obtain ⟨aa, ac, rfl⟩ := hl.shape
  have Hc := Lib.hid hc
  clear hl hc
  go_enter Tryz.func91, Tryz.ntmps91
  go_wp2_with fail
  go_loopw [8] (fun i wr => ∃ k : Nat, k ≤ l.length ∧ i = .int .i64 k ∧ Hid (∀ j (h : j < l.length), j < k → p l[j] = false) ∧ Hid (Below w.heap.size w wr)) (fun i _ => l.length - (intOf i).toNat)
  case atStart => exact ⟨0, Nat.zero_le _, rfl, Lib.hid (fun i _ h => absurd h (Nat.not_lt_zero _)), Lib.hid Seq.way⟩
  case round =>
    obtain ⟨k, hk, rfl, hno, hbr⟩ := hrel
    by_cases hlt : k < l.length
    · obtain ⟨_, _, ee, -, -, -, -, h5⟩ := HL.out.at hbr.out
      simp only [Value.slice.injEq, true_and] at ee
      obtain ⟨rfl, rfl⟩ := ee
      obtain ⟨b, off, p1, n1, rfl, -, _hb, c0, hX⟩ := h5.seq hlt
      have hy := Lib.hid (show p l[k] = true → idxZ p l = (k : Int) from fun h => idxZ_hit hlt h fun j hj hjk => hno.out j hj hjk)
      have hz := Lib.hid (show p l[k] = false → ∀ i (h : i < l.length), i < k + 1 → p l[i] = false from fun h i hi hlt => by
        by_cases e : i = k
        · subst e; exact h
        · exact hno.out i hi (by omega))
      have hcc := Lib.hid (Hc.out _ _ _ hbr.out _ (List.getElem_mem hlt) hX)
      obtain ⟨x, hx⟩ : ∃ x, x = l[k] := ⟨_, rfl⟩
      rw [← hx] at c0 hy hz hcc
      obtain ⟨d, hd⟩ : ∃ d, d = p x := ⟨_, rfl⟩
      rw [← hd] at hy hz hcc
      clear hx h5 hd hX
      have hkl : (k : Int) < (l.length : Int) := by omega
      have hk0 : (0 : Int) ≤ (k : Int) := by omega
      go_wp2_with fail
      refine hcc.out.mono ?_
      rintro e w1 ⟨rfl, hb1⟩
      have B1 := Lib.hid (below_step hb1 hbr.out)
      clear hb1
      cases d with
      | true =>
        have hy' := Lib.hid (hy.out rfl)
        clear hy hz
        go_wp2_with fail
        go_ret
        exact ⟨ret_int hy'.out.symm, B1.out⟩
      | false =>
        have hz' := Lib.hid (hz.out rfl)
        clear hy hz
        go_wp2_with fail
        go_roundw
        case rel => exact ⟨k + 1, hlt, by go_num, hz', B1⟩
        case measure => simp [intOf]; omega
    · have hkl : ¬ (k : Int) < (l.length : Int) := by omega
      have hd := Lib.hid (idxZ_miss fun j hj => hno.out j hj (by omega))
      clear hlt hno
      go_wp2_with fail
      go_ret
      exact ⟨ret_int hd.out.symm, hbr.out⟩

set_option maxRecDepth 100000 in
theorem oddC_has {S : Nat → Prop} {w : World} {v : Value} {l : List (List Cell)} {p : List Cell → Bool} (hl : Seq (seqE cellE) S w v l)
    (hc : ∀ (W' : World) (U : Nat → Prop) (u : Value), Below w.heap.size w W' → ∀ x ∈ l, Seq cellE U W' u x → Calls Tryz.prog 44 #[u] W' (RetV (.bool (p x)) W')) :
    Calls Tryz.prog 47 #[v, .func (.func 44) #[] #[]] w (RetV (.bool (l.any p)) w) := by
  have HL := Lib.hid hl
  obtain ⟨aa, ac, rfl⟩ := hl.shape
  have Hc := Lib.hid hc
  clear hl hc
  have hr := Lib.hid (any_idx p l)
  go_enter Tryz.func47, Tryz.ntmps47
  go_wp2_with fail
  refine (oddC_idx HL.out Hc.out).mono ?_
  rintro e w' ⟨rfl, hb⟩
  have HB := Lib.hid hb
  clear hb
  obtain ⟨z, hz⟩ : ∃ z, z = idxZ p l := ⟨_, rfl⟩
  rw [← hz] at hr ⊢
  clear hz
  go_wp2_with fail
  go_ret
  exact ⟨ret_bool (by rw [hr.out]; try rfl), HB.out⟩

/-! ### A number outside -/
set_option maxHeartbeats 1600000 in
theorem outP_spec {w : World} {B n : Nat} {aa : Option Addr} {ac : Nat} {x : Int} (hc : w.cell? ⟨B, 0, none⟩ = some (.slice aa n ac)) :
    Calls Tryz.prog 50 #[.int .i64 x, .pointer (some ⟨B, 0, none⟩)] w (RetV (.bool (!inN n x)) w) := by
  have hl := World.block_lt_of_cell? w _ hc
  go_enter Tryz.func50, Tryz.ntmps50
  by_cases h1 : x < 0
  · have hd : decide (x < 0) = true := decide_eq_true h1
    have hr := Lib.hid (show inN n x = false by unfold inN; simp; omega)
    clear h1
    go_wp2_with fail
    go_ret
    exact ⟨ret_bool (by rw [hr.out]; rfl), Below.refl _ _⟩
  · have hd : decide (x < 0) = false := decide_eq_false h1
    by_cases h2 : (n : Int) ≤ x
    · have hd2 : decide ((n : Int) ≤ x) = true := decide_eq_true h2
      have hd3 : decide (x ≥ (n : Int)) = true := decide_eq_true h2
      have hr := Lib.hid (show inN n x = false by unfold inN; simp; omega)
      clear h1 h2
      go_wp2_with fail
      go_ret
      exact ⟨ret_bool (by rw [hr.out]; rfl), Below.refl _ _⟩
    · have hd2 : decide ((n : Int) ≤ x) = false := decide_eq_false h2
      have hd3 : decide (x ≥ (n : Int)) = false := decide_eq_false h2
      have hr := Lib.hid (show inN n x = true by unfold inN; simp; omega)
      clear h1 h2
      go_wp2_with fail
      go_ret
      exact ⟨ret_bool (by rw [hr.out]; rfl), Below.refl _ _⟩

set_option maxHeartbeats 3200000 in
set_option maxRecDepth 100000 in
theorem outC_idx {S : Nat → Prop} {w : World} {v : Value} {l : List (Int)} {B : Nat} {p : Int → Bool} (hl : Seq (intE) S w v l)
    (hc : ∀ (W' : World) (_U : Nat → Prop) (u : Value), Below w.heap.size w W' → ∀ x ∈ l, u = .int .i64 x ∧ IntOK x → Calls Tryz.prog 50 #[u, .pointer (some ⟨B, 0, none⟩)] W' (RetV (.bool (p x)) W')) :
    Calls Tryz.prog 92 #[v, .func (.func 50) #[] #[.pointer (some ⟨B, 0, none⟩)]] w (RetV (.int .i64 (idxZ p l)) w) := by
  have HL := Lib.hid hl
  have hll : l.length ≤ 140737488355328 := by obtain ⟨_, _, _, _, _, h, _⟩ := hl; exact h
  obtain ⟨aa, ac, rfl⟩ := hl.shape
  have Hc := Lib.hid hc
  clear hl hc
  go_enter Tryz.func92, Tryz.ntmps92
  go_wp2_with fail
  go_loopw [8] (fun i wr => ∃ k : Nat, k ≤ l.length ∧ i = .int .i64 k ∧ Hid (∀ j (h : j < l.length), j < k → p l[j] = false) ∧ Hid (Below w.heap.size w wr)) (fun i _ => l.length - (intOf i).toNat)
  case atStart => exact ⟨0, Nat.zero_le _, rfl, Lib.hid (fun i _ h => absurd h (Nat.not_lt_zero _)), Lib.hid Seq.way⟩
  case round =>
    obtain ⟨k, hk, rfl, hno, hbr⟩ := hrel
    by_cases hlt : k < l.length
    · obtain ⟨_, _, ee, -, -, -, -, h5⟩ := HL.out.at hbr.out
      simp only [Value.slice.injEq, true_and] at ee
      obtain ⟨rfl, rfl⟩ := ee
      obtain ⟨b, off, rfl, -, _hb, c0, hX⟩ := h5.int hlt
      have hy := Lib.hid (show p l[k] = true → idxZ p l = (k : Int) from fun h => idxZ_hit hlt h fun j hj hjk => hno.out j hj hjk)
      have hz := Lib.hid (show p l[k] = false → ∀ i (h : i < l.length), i < k + 1 → p l[i] = false from fun h i hi hlt => by
        by_cases e : i = k
        · subst e; exact h
        · exact hno.out i hi (by omega))
      have hcc := Lib.hid (Hc.out _ (fun _ => True) _ hbr.out _ (List.getElem_mem hlt) ⟨rfl, hX⟩)
      obtain ⟨x, hx⟩ : ∃ x, x = l[k] := ⟨_, rfl⟩
      rw [← hx] at c0 hy hz hcc
      obtain ⟨d, hd⟩ : ∃ d, d = p x := ⟨_, rfl⟩
      rw [← hd] at hy hz hcc
      clear hx h5 hd hX
      have hkl : (k : Int) < (l.length : Int) := by omega
      have hk0 : (0 : Int) ≤ (k : Int) := by omega
      go_wp2_with fail
      refine hcc.out.mono ?_
      rintro e w1 ⟨rfl, hb1⟩
      have B1 := Lib.hid (below_step hb1 hbr.out)
      clear hb1
      cases d with
      | true =>
        have hy' := Lib.hid (hy.out rfl)
        clear hy hz
        go_wp2_with fail
        go_ret
        exact ⟨ret_int hy'.out.symm, B1.out⟩
      | false =>
        have hz' := Lib.hid (hz.out rfl)
        clear hy hz
        go_wp2_with fail
        go_roundw
        case rel => exact ⟨k + 1, hlt, by go_num, hz', B1⟩
        case measure => simp [intOf]; omega
    · have hkl : ¬ (k : Int) < (l.length : Int) := by omega
      have hd := Lib.hid (idxZ_miss fun j hj => hno.out j hj (by omega))
      clear hlt hno
      go_wp2_with fail
      go_ret
      exact ⟨ret_int hd.out.symm, hbr.out⟩

set_option maxRecDepth 100000 in
theorem outC_has {S : Nat → Prop} {w : World} {v : Value} {l : List (Int)} {B : Nat} {p : Int → Bool} (hl : Seq (intE) S w v l)
    (hc : ∀ (W' : World) (_U : Nat → Prop) (u : Value), Below w.heap.size w W' → ∀ x ∈ l, u = .int .i64 x ∧ IntOK x → Calls Tryz.prog 50 #[u, .pointer (some ⟨B, 0, none⟩)] W' (RetV (.bool (p x)) W')) :
    Calls Tryz.prog 52 #[v, .func (.func 50) #[] #[.pointer (some ⟨B, 0, none⟩)]] w (RetV (.bool (l.any p)) w) := by
  have HL := Lib.hid hl
  obtain ⟨aa, ac, rfl⟩ := hl.shape
  have Hc := Lib.hid hc
  clear hl hc
  have hr := Lib.hid (any_idx p l)
  go_enter Tryz.func52, Tryz.ntmps52
  go_wp2_with fail
  refine (outC_idx HL.out Hc.out).mono ?_
  rintro e w' ⟨rfl, hb⟩
  have HB := Lib.hid hb
  clear hb
  obtain ⟨z, hz⟩ : ∃ z, z = idxZ p l := ⟨_, rfl⟩
  rw [← hz] at hr ⊢
  clear hz
  go_wp2_with fail
  go_ret
  exact ⟨ret_bool (by rw [hr.out]; try rfl), HB.out⟩

/-! ### No set of numbers -/
def outV (B : Nat) : Value := .func (.func 50) #[] #[.pointer (some ⟨B, 0, none⟩)]
def wrongV (B : Nat) : Value := .func (.func 51) #[] #[.pointer (some ⟨B, 0, none⟩)]
theorem setN_eq (n : Nat) (l : List Int) : setN n l = (!(l.any fun x => !inN n x) && riseB cmpZ l) := by
  unfold setN
  congr 1
  rw [List.not_any_eq_all_not]
  simp
set_option maxHeartbeats 1600000 in
theorem wrongP_spec {S : Nat → Prop} {w : World} {v : Value} {l : List Int} {B C n : Nat} {aa : Option Addr} {ac : Nat} (hl : Seq intE S w v l) (hc : w.cell? ⟨B, 0, none⟩ = some (.slice aa n ac)) (hC : w.cell? ⟨C, 0, none⟩ = some (outV B)) :
    Calls Tryz.prog 51 #[v, .pointer (some ⟨C, 0, none⟩)] w (RetV (.bool (!setN n l)) w) := by
  have HL := Lib.hid hl
  obtain ⟨la, lc, rfl⟩ := hl.shape
  have lB := World.block_lt_of_cell? w _ hc
  have lC := World.block_lt_of_cell? w _ hC
  have Hc := Lib.hid hc
  have lB' : B < w.heap.size := lB
  unfold outV at hC
  go_enter Tryz.func51, Tryz.ntmps51
  go_wp2_with fail
  refine (outC_has (p := fun x => !inN n x) (B := B) (HL.out.at Seq.way) (fun W' _ u hb x _ hu => by
    obtain ⟨rfl, -⟩ := hu
    exact outP_spec ((hb.cell (p := ⟨B, 0, none⟩) lB').trans Hc.out))).mono ?_
  rintro e w1 ⟨rfl, hb1⟩
  have B1 := Lib.hid hb1
  clear hb1 hC
  cases ha : l.any fun x => !inN n x with
  | true =>
    have hr := Lib.hid (show setN n l = false by rw [setN_eq, ha]; rfl)
    clear ha
    go_wp2_with fail
    go_ret
    exact ⟨ret_bool (by rw [hr.out]; rfl), B1.out⟩
  | false =>
    have hr := Lib.hid (show setN n l = riseB cmpZ l by rw [setN_eq, ha]; rfl)
    clear ha
    go_wp2_with fail
    refine (risesI_spec (HL.out.at B1.out)).mono ?_
    rintro e w2 ⟨rfl, hb2⟩
    have B2 := Lib.hid (below_step hb2 B1.out)
    cases hz : riseB cmpZ l with
    | true =>
      have hq := Lib.hid (show setN n l = true by rw [hr.out, hz])
      clear hz
      go_wp2_with fail
      go_ret
      exact ⟨ret_bool (by rw [hq.out]; rfl), B2.out⟩
    | false =>
      have hq := Lib.hid (show setN n l = false by rw [hr.out, hz])
      clear hz
      go_wp2_with fail
      go_ret
      exact ⟨ret_bool (by rw [hq.out]; rfl), B2.out⟩

/-! ### A rule that may not be -/
set_option maxHeartbeats 1600000 in
set_option maxRecDepth 100000 in
theorem badP_spec {S : Nat → Prop} {w : World} {v : Value} {r : Rule} {B C D n : Nat} {aa : Option Addr} {ac : Nat} (hv : RulV S w v r) (hc : w.cell? ⟨B, 0, none⟩ = some (.slice aa n ac)) (hC : w.cell? ⟨C, 0, none⟩ = some (outV B)) (hD : w.cell? ⟨D, 0, none⟩ = some (wrongV C)) :
    Calls Tryz.prog 55 #[v, .pointer (some ⟨C, 0, none⟩), .pointer (some ⟨D, 0, none⟩)] w (RetV (.bool (!ruleN n r)) w) := by
  obtain ⟨p, q, rfl, -, hp, hq⟩ := hv
  have HP := Lib.hid hp
  have HQ := Lib.hid hq
  obtain ⟨pa, pc, rfl⟩ := hp.shape
  obtain ⟨qa, qc, rfl⟩ := hq.shape
  have lB : B < w.heap.size := World.block_lt_of_cell? w _ hc
  have lC : C < w.heap.size := World.block_lt_of_cell? w _ hC
  have lD : D < w.heap.size := World.block_lt_of_cell? w _ hD
  have Hc := Lib.hid hc
  have HC := Lib.hid hC
  have HD := Lib.hid hD
  have hrn := Lib.hid (show ruleN n r = (inN n r.head && setN n r.pos && setN n r.neg) from rfl)
  obtain ⟨W, hW⟩ : ∃ W, W = w.alloc (.cells #[.int .i64 r.head, .slice pa r.pos.length pc, .slice qa r.neg.length qc] 46) := ⟨_, rfl⟩
  have HB := Lib.hid (show Below w.heap.size w W by rw [hW]; exact Seq.way)
  have HR := Lib.hid (show Row 46 W w.heap.size [.int .i64 r.head, .slice pa r.pos.length pc, .slice qa r.neg.length qc] by rw [hW]; exact Row.new w [_, _, _] _ rfl)
  have HW := Lib.hid hW
  clear hp hq hW hc hC hD
  have kB := Lib.hid (fun (X : World) (h : Below w.heap.size w X) => (h.cell (p := ⟨B, 0, none⟩) lB).trans Hc.out)
  have kC := Lib.hid (fun (X : World) (h : Below w.heap.size w X) => (h.cell (p := ⟨C, 0, none⟩) lC).trans HC.out)
  have kD := Lib.hid (fun (X : World) (h : Below w.heap.size w X) => (h.cell (p := ⟨D, 0, none⟩) lD).trans HD.out)
  go_enter Tryz.func55, Tryz.ntmps55
  go_upto_region 1 with fail
  rw [← HW.out]
  have c0 := kC.out _ HB.out
  have f0 := HR.out.cell (j := 0) (by simp)
  have l0 := HR.out.lt
  simp only [List.getElem_cons_zero] at f0
  unfold outV at c0
  go_wp2_with fail
  refine (outP_spec (kB.out _ HB.out)).mono ?_
  rintro e w1 ⟨rfl, hb1⟩
  have B1 := Lib.hid hb1
  have BW1 := Lib.hid (below_step hb1 HB.out)
  clear hb1 c0 f0
  cases h1 : inN n r.head with
  | false =>
    have hr := Lib.hid (show ruleN n r = false by rw [hrn.out, h1]; rfl)
    clear h1
    go_wp2_with fail
    go_ret
    exact ⟨ret_bool (by rw [hr.out]; rfl), BW1.out⟩
  | true =>
    have hr1 := Lib.hid (show ruleN n r = (setN n r.pos && setN n r.neg) by rw [hrn.out, h1]; rfl)
    have HR1 := Lib.hid (rowTo HR.out B1.out)
    have c0 := kD.out _ BW1.out
    have f1 := HR1.out.cell (j := 1) (by simp)
    simp only [List.getElem_cons_zero, List.getElem_cons_succ] at f1
    unfold wrongV at c0
    clear h1
    go_wp2_with fail
    refine (wrongP_spec (HP.out.at BW1.out) (kB.out _ BW1.out) (kC.out _ BW1.out)).mono ?_
    rintro e w2 ⟨rfl, hb2⟩
    have B2 := Lib.hid hb2
    have BW2 := Lib.hid (below_step hb2 BW1.out)
    clear hb2 c0 f1
    cases h2 : setN n r.pos with
    | false =>
      have hr := Lib.hid (show ruleN n r = false by rw [hr1.out, h2]; rfl)
      clear h2
      go_wp2_with fail
      go_ret
      exact ⟨ret_bool (by rw [hr.out]; rfl), BW2.out⟩
    | true =>
      have hr2 := Lib.hid (show ruleN n r = setN n r.neg by rw [hr1.out, h2]; rfl)
      have HR2 := Lib.hid (rowTo HR1.out B2.out)
      have c0 := kD.out _ BW2.out
      have f2 := HR2.out.cell (j := 2) (by simp)
      simp only [List.getElem_cons_zero, List.getElem_cons_succ] at f2
      unfold wrongV at c0
      clear h2
      go_wp2_with fail
      refine (wrongP_spec (HQ.out.at BW2.out) (kB.out _ BW2.out) (kC.out _ BW2.out)).mono ?_
      rintro e w3 ⟨rfl, hb3⟩
      have BW3 := Lib.hid (below_step hb3 BW2.out)
      clear hb3 c0 f2
      go_wp2_with fail
      go_ret
      exact ⟨ret_bool (by rw [hr2.out]), BW3.out⟩

set_option maxHeartbeats 3200000 in
set_option maxRecDepth 100000 in
theorem badC_idx {S : Nat → Prop} {w : World} {v : Value} {l : List (Rule)} {C D : Nat} {p : Rule → Bool} (hl : Seq (ruleE) S w v l)
    (hc : ∀ (W' : World) (U : Nat → Prop) (u : Value), Below w.heap.size w W' → ∀ x ∈ l, RulV U W' u x → Calls Tryz.prog 55 #[u, .pointer (some ⟨C, 0, none⟩), .pointer (some ⟨D, 0, none⟩)] W' (RetV (.bool (p x)) W')) :
    Calls Tryz.prog 93 #[v, .func (.func 55) #[] #[.pointer (some ⟨C, 0, none⟩), .pointer (some ⟨D, 0, none⟩)]] w (RetV (.int .i64 (idxZ p l)) w) := by
  have HL := Lib.hid hl
  have hll : l.length ≤ 140737488355328 := by obtain ⟨_, _, _, _, _, h, _⟩ := hl; exact h
  obtain ⟨aa, ac, rfl⟩ := hl.shape
  have Hc := Lib.hid hc
  clear hl hc
  go_enter Tryz.func93, Tryz.ntmps93
  go_wp2_with fail
  go_loopw [8] (fun i wr => ∃ k : Nat, k ≤ l.length ∧ i = .int .i64 k ∧ Hid (∀ j (h : j < l.length), j < k → p l[j] = false) ∧ Hid (Below w.heap.size w wr)) (fun i _ => l.length - (intOf i).toNat)
  case atStart => exact ⟨0, Nat.zero_le _, rfl, Lib.hid (fun i _ h => absurd h (Nat.not_lt_zero _)), Lib.hid Seq.way⟩
  case round =>
    obtain ⟨k, hk, rfl, hno, hbr⟩ := hrel
    by_cases hlt : k < l.length
    · obtain ⟨_, _, ee, -, -, -, -, h5⟩ := HL.out.at hbr.out
      simp only [Value.slice.injEq, true_and] at ee
      obtain ⟨rfl, rfl⟩ := ee
      obtain ⟨b, off, p1, n1, p2, n2, rfl, -, _hb, c0, c1, c2, hX0, hX1, hX2⟩ := h5.rule hlt
      have hy := Lib.hid (show p l[k] = true → idxZ p l = (k : Int) from fun h => idxZ_hit hlt h fun j hj hjk => hno.out j hj hjk)
      have hz := Lib.hid (show p l[k] = false → ∀ i (h : i < l.length), i < k + 1 → p l[i] = false from fun h i hi hlt => by
        by_cases e : i = k
        · subst e; exact h
        · exact hno.out i hi (by omega))
      have hcc := Lib.hid (Hc.out _ _ _ hbr.out _ (List.getElem_mem hlt) ⟨_, _, rfl, hX0, hX1, hX2⟩)
      obtain ⟨x, hx⟩ : ∃ x, x = l[k] := ⟨_, rfl⟩
      rw [← hx] at c0 c1 c2 hy hz hcc
      obtain ⟨d, hd⟩ : ∃ d, d = p x := ⟨_, rfl⟩
      rw [← hd] at hy hz hcc
      clear hx h5 hd hX0 hX1 hX2
      have hkl : (k : Int) < (l.length : Int) := by omega
      have hk0 : (0 : Int) ≤ (k : Int) := by omega
      go_wp2_with fail
      refine hcc.out.mono ?_
      rintro e w1 ⟨rfl, hb1⟩
      have B1 := Lib.hid (below_step hb1 hbr.out)
      clear hb1
      cases d with
      | true =>
        have hy' := Lib.hid (hy.out rfl)
        clear hy hz
        go_wp2_with fail
        go_ret
        exact ⟨ret_int hy'.out.symm, B1.out⟩
      | false =>
        have hz' := Lib.hid (hz.out rfl)
        clear hy hz
        go_wp2_with fail
        go_roundw
        case rel => exact ⟨k + 1, hlt, by go_num, hz', B1⟩
        case measure => simp [intOf]; omega
    · have hkl : ¬ (k : Int) < (l.length : Int) := by omega
      have hd := Lib.hid (idxZ_miss fun j hj => hno.out j hj (by omega))
      clear hlt hno
      go_wp2_with fail
      go_ret
      exact ⟨ret_int hd.out.symm, hbr.out⟩

set_option maxRecDepth 100000 in
theorem badC_has {S : Nat → Prop} {w : World} {v : Value} {l : List (Rule)} {C D : Nat} {p : Rule → Bool} (hl : Seq (ruleE) S w v l)
    (hc : ∀ (W' : World) (U : Nat → Prop) (u : Value), Below w.heap.size w W' → ∀ x ∈ l, RulV U W' u x → Calls Tryz.prog 55 #[u, .pointer (some ⟨C, 0, none⟩), .pointer (some ⟨D, 0, none⟩)] W' (RetV (.bool (p x)) W')) :
    Calls Tryz.prog 54 #[v, .func (.func 55) #[] #[.pointer (some ⟨C, 0, none⟩), .pointer (some ⟨D, 0, none⟩)]] w (RetV (.bool (l.any p)) w) := by
  have HL := Lib.hid hl
  obtain ⟨aa, ac, rfl⟩ := hl.shape
  have Hc := Lib.hid hc
  clear hl hc
  have hr := Lib.hid (any_idx p l)
  go_enter Tryz.func54, Tryz.ntmps54
  go_wp2_with fail
  refine (badC_idx HL.out Hc.out).mono ?_
  rintro e w' ⟨rfl, hb⟩
  have HB := Lib.hid hb
  clear hb
  obtain ⟨z, hz⟩ : ∃ z, z = idxZ p l := ⟨_, rfl⟩
  rw [← hz] at hr ⊢
  clear hz
  go_wp2_with fail
  go_ret
  exact ⟨ret_bool (by rw [hr.out]; try rfl), HB.out⟩

/-! ### Right -/
theorem rightG_eq (g : Prog) : rightG g = (!(g.atoms.any fun t => !atomG t) && riseB cmpT g.atoms && riseB cmpU g.rules && !(g.rules.any fun r => !ruleN g.atoms.length r)) := by
  unfold rightG
  rw [List.not_any_eq_all_not, List.not_any_eq_all_not]
  simp only [Bool.not_not]
  cases g.atoms.all atomG <;> cases riseB cmpT g.atoms <;> cases g.rules.all (ruleN g.atoms.length) <;> cases riseB cmpU g.rules <;> rfl
set_option maxHeartbeats 3200000 in
set_option maxRecDepth 100000 in
theorem RightGP_spec {S : Nat → Prop} {w : World} {v : Value} {g : Prog} (hg : ProgV S w v g) :
    Calls Tryz.prog 17 #[v] w (RetV (.bool (rightG g)) w) := by
  obtain ⟨va, vr, rfl, hA, hR⟩ := hg
  have HA := Lib.hid hA
  have HRl := Lib.hid hR
  obtain ⟨ra, rc, rfl⟩ := hR.shape
  obtain ⟨aa, ac, rfl⟩ := hA.shape
  clear hA hR
  have hre := Lib.hid (rightG_eq g)
  obtain ⟨W, hW⟩ : ∃ W, W = w.alloc (.cells #[.slice aa g.atoms.length ac, .slice ra g.rules.length rc] 26) := ⟨_, rfl⟩
  have HB := Lib.hid (show Below w.heap.size w W by rw [hW]; exact Seq.way)
  have HP := Lib.hid (show Row 26 W w.heap.size [.slice aa g.atoms.length ac, .slice ra g.rules.length rc] by rw [hW]; exact Row.new w [_, _] _ rfl)
  have HW := Lib.hid hW
  clear hW
  have d0 := HP.out.cell (j := 0) (by simp)
  have lP := HP.out.lt
  simp only [List.getElem_cons_zero] at d0
  go_enter Tryz.func17, Tryz.ntmps17
  go_upto_region 2 with fail
  rw [← HW.out]
  go_wp2_with fail
  refine (oddC_has (p := fun t => !atomG t) (HA.out.at HB.out) (fun W' U u _ x _ hu => oddP_spec hu)).mono ?_
  rintro e w1 ⟨rfl, hb1⟩
  have B1 := Lib.hid hb1
  have BW1 := Lib.hid (below_step hb1 HB.out)
  have HP1 := Lib.hid (rowTo HP.out hb1)
  clear hb1 d0 lP
  cases h1 : g.atoms.any fun t => !atomG t with
  | true =>
    have hr := Lib.hid (show rightG g = false by rw [hre.out, h1]; rfl)
    clear h1
    go_wp2_with fail
    go_ret
    exact ⟨ret_bool hr.out.symm, BW1.out⟩
  | false =>
    have hr1 := Lib.hid (show rightG g = (riseB cmpT g.atoms && riseB cmpU g.rules && !(g.rules.any fun r => !ruleN g.atoms.length r)) by rw [hre.out, h1]; rfl)
    have d0 := HP1.out.cell (j := 0) (by simp)
    simp only [List.getElem_cons_zero] at d0
    clear h1
    go_wp2_with fail
    refine (risesT_spec (HA.out.at BW1.out)).mono ?_
    rintro e w2 ⟨rfl, hb2⟩
    have BW2 := Lib.hid (below_step hb2 BW1.out)
    have HP2 := Lib.hid (rowTo HP1.out hb2)
    clear hb2 d0
    cases h2 : riseB cmpT g.atoms with
    | false =>
      have hr := Lib.hid (show rightG g = false by rw [hr1.out, h2]; rfl)
      clear h2
      go_wp2_with fail
      go_ret
      exact ⟨ret_bool hr.out.symm, BW2.out⟩
    | true =>
      have hr2 := Lib.hid (show rightG g = (riseB cmpU g.rules && !(g.rules.any fun r => !ruleN g.atoms.length r)) by rw [hr1.out, h2]; rfl)
      have d1 := HP2.out.cell (j := 1) (by simp)
      simp only [List.getElem_cons_zero, List.getElem_cons_succ] at d1
      clear h2
      go_wp2_with fail
      refine (risesU_spec (HRl.out.at BW2.out)).mono ?_
      rintro e w3 ⟨rfl, hb3⟩
      have BW3 := Lib.hid (below_step hb3 BW2.out)
      have HP3 := Lib.hid (rowTo HP2.out hb3)
      clear hb3 d1
      cases h3 : riseB cmpU g.rules with
      | false =>
        have hr := Lib.hid (show rightG g = false by rw [hr2.out, h3]; rfl)
        clear h3
        go_wp2_with fail
        go_ret
        exact ⟨ret_bool hr.out.symm, BW3.out⟩
      | true =>
        have hr3 := Lib.hid (show rightG g = !(g.rules.any fun r => !ruleN g.atoms.length r) by rw [hr2.out, h3]; rfl)
        have d1 := HP3.out.cell (j := 1) (by simp)
        have lP3 := HP3.out.lt
        have lP4 : w.heap.size < w3.heap.size + 1 := Nat.lt_succ_of_lt lP3
        simp only [List.getElem_cons_zero, List.getElem_cons_succ] at d1
        clear h3
        go_wp2_with fail
        refine (badC_has (p := fun r => !ruleN g.atoms.length r) (C := w3.heap.size) (D := w3.heap.size + 1) (HRl.out.at (below_step Seq.way BW3.out)) (fun W' U u hb x _ hu => badP_spec (B := w.heap.size) (n := g.atoms.length) (aa := aa) (ac := ac) hu ?_ ?_ ?_)).mono ?_
        · exact (hb.cell (p := ⟨w.heap.size, 0, none⟩) (by simp; omega)).trans (((HP3.out.alloc _).alloc _).cell (j := 0) (by simp))
        · rw [hb.cell (by simp <;> omega)]; unfold outV; simp
        · rw [hb.cell (by simp <;> omega)]; unfold wrongV; simp
        rintro e w4 ⟨rfl, hb4⟩
        have BW4 := Lib.hid (below_step (below_step hb4 (Seq.way : Below w3.heap.size w3 _)) BW3.out)
        clear hb4 d1
        go_wp2_with fail
        go_ret
        exact ⟨ret_bool hr3.out.symm, BW4.out⟩
end Go.Proofs.YtaedgpcmkagpeaaGreat
