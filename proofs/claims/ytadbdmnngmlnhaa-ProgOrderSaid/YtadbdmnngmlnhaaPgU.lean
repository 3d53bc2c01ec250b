/-
  Layer 7, the program: comparing numbers and names; the first that is not 0.
  Layer 7, the program: the order of predicates.
  Layer 7, the program: the order of links.
-/
import Derived.Test.YtadbdmnngmlnhaaPgN
import Derived.Sort.Grow
namespace Go.Proofs.Ytadbdmnngmlnhaa
section
open Go Go.RowKit

theorem NaNI_spec {w : World} {n : Int} : Calls Try.prog 74 #[.int .i64 n] w (PureV (.bool false) w) := by
  go_enter Try.func74, Try.ntmps74
  go_wp2_with fail
  go_ret
  exact ⟨ret_bool (by simp), rfl⟩
theorem NaNS_spec {w : World} {n : ByteArray} : Calls Try.prog 89 #[.string n] w (PureV (.bool false) w) := by
  go_enter Try.func89, Try.ntmps89
  go_wp2_with fail
  go_ret
  exact ⟨ret_bool (by simp), rfl⟩
theorem CompareI_spec {w : World} {a b : Int} : Calls Try.prog 59 #[.int .i64 a, .int .i64 b] w (PureV (.int .i64 (cmpZ a b)) w) := by
  have h1 := Lib.hid (show cmpZ a b = if a < b then -1 else if b < a then 1 else 0 from rfl)
  go_enter Try.func59, Try.ntmps59
  go_wp2_with fail
  refine NaNI_spec.mono ?_
  rintro e w1 ⟨rfl, rfl⟩
  go_wp2_with fail
  refine NaNI_spec.mono ?_
  rintro e w1 ⟨rfl, rfl⟩
  by_cases hab : a < b
  · have h2 := Lib.hid (show cmpZ a b = -1 by rw [h1.out, if_pos hab])
    go_wp2_with fail
    go_ret
    exact ⟨ret_eq (by rw [h2.out]; rfl), rfl⟩
  · by_cases hba : b < a
    · have h2 := Lib.hid (show cmpZ a b = 1 by rw [h1.out, if_neg hab, if_pos hba])
      go_wp2_with fail
      go_ret
      exact ⟨ret_eq (by rw [h2.out]; rfl), rfl⟩
    · have h2 := Lib.hid (show cmpZ a b = 0 by rw [h1.out, if_neg hab, if_neg hba])
      go_wp2_with fail
      go_ret
      exact ⟨ret_eq (by rw [h2.out]; rfl), rfl⟩
theorem CompareS_spec {w : World} {a b : ByteArray} : Calls Try.prog 72 #[.string a, .string b] w (PureV (.int .i64 (cmpS a b)) w) := by
  have h1 := Lib.hid (show cmpS a b = if Op.bytesLess a.toList b.toList = true then -1 else if Op.bytesLess b.toList a.toList = true then 1 else 0 from rfl)
  go_enter Try.func72, Try.ntmps72
  go_wp2_with fail
  refine NaNS_spec.mono ?_
  rintro e w1 ⟨rfl, rfl⟩
  go_wp2_with fail
  refine NaNS_spec.mono ?_
  rintro e w1 ⟨rfl, rfl⟩
  cases hab : Op.bytesLess a.toList b.toList with
  | true =>
    have h2 := Lib.hid (show cmpS a b = -1 by rw [h1.out, hab]; rfl)
    clear h1
    go_wp2_with fail
    go_ret
    exact ⟨ret_eq (by rw [h2.out]; rfl), rfl⟩
  | false =>
    cases hba : Op.bytesLess b.toList a.toList with
    | true =>
      have h2 := Lib.hid (show cmpS a b = 1 by rw [h1.out, hab, hba]; rfl)
      have hq : (a.toList == b.toList) = false := by
        have : a.toList ≠ b.toList := fun e => by rw [e, bytes_irr] at hba; cases hba
        simpa using this
      clear h1
      go_wp2_with fail
      go_ret
      exact ⟨ret_eq (by rw [h2.out]; rfl), rfl⟩
    | false =>
      have h2 := Lib.hid (show cmpS a b = 0 by rw [h1.out, hab, hba]; rfl)
      have hq : (a.toList == b.toList) = true := by rw [bytes_total hab hba]; simp
      clear h1
      go_wp2_with fail
      go_ret
      exact ⟨ret_eq (by rw [h2.out]; rfl), rfl⟩
theorem FlagP_spec {w : World} {b : Bool} : Calls Try.prog 60 #[.bool b] w (PureV (.int .i64 (flagB b)) w) := by
  go_enter Try.func60, Try.ntmps60
  cases b with
  | true =>
    go_wp2_with fail
    go_ret
    exact ⟨rfl, rfl⟩
  | false =>
    go_wp2_with fail
    go_ret
    exact ⟨rfl, rfl⟩

/-- The first that is not 0. -/
def orZ : List Int → Int
  | [] => 0
  | a :: l => if a ≠ 0 then a else orZ l
theorem orZ_at {l : List Int} {k : Nat} (hk : k < l.length) (h0 : ∀ (j : Nat) x, j < k → l[j]? = some x → x = 0) (hn : l[k] ≠ 0) : orZ l = l[k] := by
  induction l generalizing k with
  | nil => simp at hk
  | cons a l ih =>
    cases k with
    | zero => simp only [List.getElem_cons_zero] at hn ⊢; unfold orZ; rw [if_pos hn]
    | succ k =>
      have ha := h0 0 a (Nat.succ_pos _) rfl
      unfold orZ
      rw [if_neg (by simp [ha])]
      exact ih (by simpa using hk) (fun j x hj hx => h0 (j + 1) x (by omega) (by simpa using hx)) (by simpa using hn)
theorem orZ_none {l : List Int} (h0 : ∀ (j : Nat) x, j < l.length → l[j]? = some x → x = 0) : orZ l = 0 := by
  induction l with
  | nil => rfl
  | cons a l ih =>
    have ha := h0 0 a (by simp) rfl
    unfold orZ
    rw [if_neg (by simp [ha])]
    exact ih fun j x hj hx => h0 (j + 1) x (by simpa using hj) (by simpa using hx)

set_option maxHeartbeats 1600000 in
theorem OrI_spec {S : Nat → Prop} {w : World} {v : Value} {l : List Int} (hl : Seq intE S w v l) : Calls Try.prog 58 #[v] w (PureV (.int .i64 (orZ l)) w) := by
  obtain ⟨aa, ac, rfl, -, -, hll, -, h5⟩ := hl
  have H5 := Lib.hid h5
  clear h5
  go_enter Try.func58, Try.ntmps58
  go_wp2_with fail
  go_loopw [8] (fun i wr => ∃ k : Nat, k ≤ l.length ∧ i = .int .i64 k ∧ Hid (∀ (j : Nat) x, j < k → l[j]? = some x → x = 0) ∧ w = wr) (fun i _ => l.length - (intOf i).toNat)
  case atStart => exact ⟨0, Nat.zero_le _, rfl, Lib.hid (fun j x h _ => by omega), rfl⟩
  case round =>
    obtain ⟨k, hk, rfl, hno, rfl⟩ := hrel
    by_cases hlt : k < l.length
    · obtain ⟨b1, o1, rfl, -, -, c0, -⟩ := H5.out.int hlt
      have hy := Lib.hid (fun h => orZ_at hlt hno.out h)
      have hn := Lib.hid (show l[k] = 0 → ∀ (j : Nat) x, j < k + 1 → l[j]? = some x → x = 0 from fun h j x hj hx => by
        by_cases e : j = k
        · subst e; rw [List.getElem?_eq_getElem hlt] at hx; exact Option.some.inj hx ▸ h
        · exact hno.out j x (by omega) hx)
      obtain ⟨x, hx⟩ : ∃ x, x = l[k] := ⟨_, rfl⟩
      rw [← hx] at c0 hy hn
      have hkl : (k : Int) < (l.length : Int) := by omega
      have hk0 : (0 : Int) ≤ (k : Int) := by omega
      clear hx
      by_cases he : x = 0
      · have hn' := Lib.hid (hn.out he)
        have hxb : (x != 0) = false := by simp [he]
        clear hy hn he
        go_wp2_with fail
        go_roundw
        case rel => exact ⟨k + 1, hlt, by go_num, hn', trivial⟩
        case measure => simp [intOf]; omega
      · have hy' := Lib.hid (hy.out he)
        have hxb : (x != 0) = true := by simp [he]
        clear hy hn he
        go_wp2_with fail
        go_ret
        exact ⟨ret_eq (by rw [hy'.out]; rfl), rfl⟩
    · have hkn := Lib.hid (show k = l.length by omega)
      have hkI : ¬ (k : Int) < (l.length : Int) := by omega
      have he := Lib.hid (orZ_none (l := l) (by rw [← hkn.out]; exact hno.out))
      clear hlt
      go_wp2_with fail
      go_ret
      exact ⟨ret_eq (by rw [he.out]; rfl), rfl⟩
end
section
open Go Go.RowKit Go.Sort

theorem cmpP_or (x y : Prd) : orZ [cmpS x.name y.name, cmpZ x.n y.n] = cmpP x y := by
  unfold cmpP orZ
  by_cases h : cmpS x.name y.name = 0
  · rw [if_neg (by simp [h]), if_neg (by simp [h])]
    unfold orZ
    by_cases h2 : cmpZ x.n y.n = 0
    · rw [if_neg (by simp [h2]), h2]; rfl
    · rw [if_pos h2]
  · rw [if_pos h, if_pos h]
theorem cmpZ_ok2 (a b : Int) : IntOK (cmpZ a b) := by unfold cmpZ IntOK; split <;> (try split) <;> omega
theorem cmpS_ok2 (a b : ByteArray) : IntOK (cmpS a b) := by unfold cmpS IntOK; split <;> (try split) <;> omega

set_option maxHeartbeats 3200000 in
set_option maxRecDepth 100000 in
theorem CompareP_spec (x y : Prd) (w : World) : Calls Try.prog 51 #[.agg #[.string x.name, .int .i64 x.n], .agg #[.string y.name, .int .i64 y.n]] w fun e w' => e = .returned (.int .i64 (cmpP x y)) ∧ ∃ q os', w' = grow (w.drewN q) os' := by
  obtain ⟨W, hW⟩ : ∃ W, W = (w.alloc (.cells #[.string x.name, .int .i64 x.n] 24)).alloc (.cells #[.string y.name, .int .i64 y.n] 24) := ⟨_, rfl⟩
  have HR := Lib.hid (show RowA 24 W w.heap.size [.string x.name, .int .i64 x.n] by rw [hW]; exact (Row.new w [_, _] _ rfl).alloc _)
  have HR2 := Lib.hid (show RowA 24 W (w.heap.size + 1) [.string y.name, .int .i64 y.n] by rw [hW]; exact Row.new (w.alloc _) [_, _] _ (by simp))
  have HW := Lib.hid hW
  clear hW
  have Kr := fun {W' : World} (h : Below W.heap.size W W') => Lib.hid (show W'.cell? ⟨w.heap.size, 0, none⟩ = some (.string x.name) ∧ W'.cell? ⟨w.heap.size, 1, none⟩ = some (.int .i64 x.n) ∧ W'.cell? ⟨w.heap.size + 1, 0, none⟩ = some (.string y.name) ∧ W'.cell? ⟨w.heap.size + 1, 1, none⟩ = some (.int .i64 y.n) from
    ⟨(HR.out.at h).row.cell (j := 0) (by simp), (HR.out.at h).row.cell (j := 1) (by simp), (HR2.out.at h).row.cell (j := 0) (by simp), (HR2.out.at h).row.cell (j := 1) (by simp)⟩)
  have hSeq := Lib.hid (fun (W' : World) (h : W.heap.size = W'.heap.size) => (show Seq intE (fun _ => True) (W'.alloc (.cells #[.int .i64 (cmpS x.name y.name), .int .i64 (cmpZ x.n y.n)] 3)) (.slice (some ⟨W.heap.size, 0, none⟩) 2 2) [cmpS x.name y.name, cmpZ x.n y.n] from
    RowI.seq (T := 3) (Row.new W' [_, _] _ h) rfl (Nat.le_refl _) (by unfold maxLen; omega) (by simp) trivial (fun z hz => by
      rcases List.mem_cons.1 hz with rfl | hz
      · exact cmpS_ok2 _ _
      · rw [List.mem_singleton] at hz; subst hz; exact cmpZ_ok2 _ _)))
  go_enter Try.func51, Try.ntmps51
  go_upto_region 1 with fail
  rw [← HW.out]
  go_region_held3 (fun w' => w'.cell? ⟨w.heap.size, 0, none⟩ = some (.string x.name) ∧ w'.cell? ⟨w.heap.size, 1, none⟩ = some (.int .i64 x.n) ∧ w'.cell? ⟨w.heap.size + 1, 0, none⟩ = some (.string y.name) ∧ w'.cell? ⟨w.heap.size + 1, 1, none⟩ = some (.int .i64 y.n))
    (first | exact (Kr (Below.refl _ _)).out | exact (Kr Seq.way).out | go_keep)
    (first
      | (go_at_call 72; refine (CompareS_spec).mono ?_; rintro e y1 ⟨rfl, rfl⟩)
      | (go_at_call 59; refine (CompareI_spec).mono ?_; rintro e y2 ⟨rfl, rfl⟩)
      | (go_at_call 58; refine (OrI_spec ((hSeq.out W rfl).at Seq.way)).mono ?_; rintro e y3 ⟨rfl, rfl⟩))
  go_wp2_with fail
  go_ret
  refine ⟨ret_eq (by rw [← cmpP_or]; rfl), ?_⟩
  have hw := HW.out
  rw [alloc_eq_grow, alloc_eq_grow, grow_grow] at hw
  exact ⟨1, _, by rw [alloc_eq_grow, hw, grow_grow]; rfl⟩
end
section
open Go Go.RowKit Go.Sort

theorem cmpK_or (x y : Lnk) : orZ [cmpZ x.fr y.fr, cmpZ x.2 y.2, cmpZ (flagB x.neg) (flagB y.neg)] = cmpK x y := by
  unfold cmpK orZ
  by_cases h : cmpZ (x.fr : Int) y.fr = 0
  · rw [if_neg (by simp [h]), if_neg (by simp [h])]
    unfold orZ
    by_cases h2 : cmpZ (x.2 : Int) y.2 = 0
    · rw [if_neg (by simp [h2]), if_neg (by simp [h2])]
      unfold orZ
      by_cases h3 : cmpZ (flagB x.neg) (flagB y.neg) = 0
      · rw [if_neg (by simp [h3]), h3]; rfl
      · rw [if_pos h3]
    · rw [if_pos h2, if_pos h2]
  · rw [if_pos h, if_pos h]

set_option maxHeartbeats 3200000 in
set_option maxRecDepth 100000 in
theorem CompareK_spec (x y : Lnk) (w : World) : Calls Try.prog 57 #[.agg #[.int .i64 x.fr, .int .i64 x.2, .bool x.neg], .agg #[.int .i64 y.fr, .int .i64 y.2, .bool y.neg]] w fun e w' => e = .returned (.int .i64 (cmpK x y)) ∧ ∃ q os', w' = grow (w.drewN q) os' := by
  obtain ⟨W, hW⟩ : ∃ W, W = (w.alloc (.cells #[.int .i64 x.fr, .int .i64 x.2, .bool x.neg] 57)).alloc (.cells #[.int .i64 y.fr, .int .i64 y.2, .bool y.neg] 57) := ⟨_, rfl⟩
  have HR := Lib.hid (show RowA 57 W w.heap.size [.int .i64 x.fr, .int .i64 x.2, .bool x.neg] by rw [hW]; exact (Row.new w [_, _, _] _ rfl).alloc _)
  have HR2 := Lib.hid (show RowA 57 W (w.heap.size + 1) [.int .i64 y.fr, .int .i64 y.2, .bool y.neg] by rw [hW]; exact Row.new (w.alloc _) [_, _, _] _ (by simp))
  have HW := Lib.hid hW
  clear hW
  have Kr := fun {W' : World} (h : Below W.heap.size W W') => Lib.hid (show W'.cell? ⟨w.heap.size, 0, none⟩ = some (.int .i64 x.fr) ∧ W'.cell? ⟨w.heap.size, 1, none⟩ = some (.int .i64 x.2) ∧ W'.cell? ⟨w.heap.size, 2, none⟩ = some (.bool x.neg) ∧ W'.cell? ⟨w.heap.size + 1, 0, none⟩ = some (.int .i64 y.fr) ∧ W'.cell? ⟨w.heap.size + 1, 1, none⟩ = some (.int .i64 y.2) ∧ W'.cell? ⟨w.heap.size + 1, 2, none⟩ = some (.bool y.neg) from
    ⟨(HR.out.at h).row.cell (j := 0) (by simp), (HR.out.at h).row.cell (j := 1) (by simp), (HR.out.at h).row.cell (j := 2) (by simp), (HR2.out.at h).row.cell (j := 0) (by simp), (HR2.out.at h).row.cell (j := 1) (by simp), (HR2.out.at h).row.cell (j := 2) (by simp)⟩)
  have hSeq := Lib.hid (fun (W' : World) (h : W.heap.size = W'.heap.size) => (show Seq intE (fun _ => True) (W'.alloc (.cells #[.int .i64 (cmpZ x.fr y.fr), .int .i64 (cmpZ x.2 y.2), .int .i64 (cmpZ (flagB x.neg) (flagB y.neg))] 3)) (.slice (some ⟨W.heap.size, 0, none⟩) 3 3) [cmpZ x.fr y.fr, cmpZ x.2 y.2, cmpZ (flagB x.neg) (flagB y.neg)] from
    RowI.seq (T := 3) (Row.new W' [_, _, _] _ h) rfl (Nat.le_refl _) (by unfold maxLen; omega) (by simp) trivial (fun z hz => by
      rcases List.mem_cons.1 hz with rfl | hz
      · exact cmpZ_ok2 _ _
      · rcases List.mem_cons.1 hz with rfl | hz
        · exact cmpZ_ok2 _ _
        · rw [List.mem_singleton] at hz; subst hz; exact cmpZ_ok2 _ _)))
  go_enter Try.func57, Try.ntmps57
  go_upto_region 1 with fail
  rw [← HW.out]
  go_region_held3 (fun w' => w'.cell? ⟨w.heap.size, 0, none⟩ = some (.int .i64 x.fr) ∧ w'.cell? ⟨w.heap.size, 1, none⟩ = some (.int .i64 x.2) ∧ w'.cell? ⟨w.heap.size, 2, none⟩ = some (.bool x.neg) ∧ w'.cell? ⟨w.heap.size + 1, 0, none⟩ = some (.int .i64 y.fr) ∧ w'.cell? ⟨w.heap.size + 1, 1, none⟩ = some (.int .i64 y.2) ∧ w'.cell? ⟨w.heap.size + 1, 2, none⟩ = some (.bool y.neg))
    (first | exact (Kr (Below.refl _ _)).out | exact (Kr Seq.way).out | go_keep)
    (first
      | (go_at_call 59; refine (CompareI_spec).mono ?_; rintro e y2 ⟨rfl, rfl⟩)
      | (go_at_call 60; refine (FlagP_spec).mono ?_; rintro e y1 ⟨rfl, rfl⟩)
      | (go_at_call 58; refine (OrI_spec ((hSeq.out W rfl).at Seq.way)).mono ?_; rintro e y3 ⟨rfl, rfl⟩))
  go_wp2_with fail
  go_ret
  refine ⟨ret_eq (by rw [← cmpK_or]; rfl), ?_⟩
  have hw := HW.out
  rw [alloc_eq_grow, alloc_eq_grow, grow_grow] at hw
  exact ⟨1, _, by rw [alloc_eq_grow, hw, grow_grow]; rfl⟩
end
end Go.Proofs.Ytadbdmnngmlnhaa
