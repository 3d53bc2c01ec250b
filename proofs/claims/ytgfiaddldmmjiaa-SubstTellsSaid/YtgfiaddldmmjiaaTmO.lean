/-
  The program's terms: which cells may be.
-/
import Derived.Test.YtgfiaddldmmjiaaTmN
namespace Go.Proofs.Ytgfiaddldmmjiaa
open Go Go.RowKit

theorem inI_spec {w : World} {n a b : Int} : Calls Try.prog 49 #[.int .i64 n, .int .i64 a, .int .i64 b] w (PureV (.bool (decide (a ≤ n) && decide (n ≤ b))) w) := by
  go_enter Try.func49, Try.ntmps49
  by_cases h1 : a ≤ n
  · by_cases h2 : n ≤ b
    · go_wp2_with fail
      go_ret
      exact ⟨ret_bool (by simp [h1, h2]), rfl⟩
    · go_wp2_with fail
      go_ret
      exact ⟨ret_bool (by simp; omega), rfl⟩
  · go_wp2_with fail
    go_ret
    exact ⟨ret_bool (by simp; omega), rfl⟩

theorem runes_row {w : World} {s : ByteArray} {cap B : Nat} (hB : B = w.heap.size) (h12 : s.size ≤ 12) (hcap : (Conv.runesFrom s s.size 0 #[]).size ≤ cap) (hm : cap ≤ maxLen) {e : TypeId} :
    Seq runeE (fun _ => True) (w.alloc (.cells (Conv.runesFrom s s.size 0 #[] ++ Array.replicate (cap - (Conv.runesFrom s s.size 0 #[]).size) (Value.int .i32 0)) e)) (.slice (some ⟨B, 0, none⟩) (Conv.runesFrom s s.size 0 #[]).size cap) (runesL s) := by
  have hl := runesG_len s s.size 0
  have hsz : (Conv.runesFrom s s.size 0 #[]).size = (runesL s).length := by rw [runesFrom_eq]; simp [runesL]
  have hll : (runesL s).length ≤ 12 := by unfold runesL; omega
  have hR : Row e (w.alloc (.cells (Conv.runesFrom s s.size 0 #[] ++ Array.replicate (cap - (Conv.runesFrom s s.size 0 #[]).size) (Value.int .i32 0)) e)) B (((runesL s).map (Value.int .i32)) ++ List.replicate (cap - (runesL s).length) (Value.int .i32 0)) := by
    have h0 := Row.new w (((runesL s).map (Value.int .i32)) ++ List.replicate (cap - (runesL s).length) (Value.int .i32 0)) e hB
    have he : (((runesL s).map (Value.int .i32)) ++ List.replicate (cap - (runesL s).length) (Value.int .i32 0)).toArray = Conv.runesFrom s s.size 0 #[] ++ Array.replicate (cap - (Conv.runesFrom s s.size 0 #[]).size) (Value.int .i32 0) := by
      rw [hsz, runesFrom_eq]
      simp [runesL]
    rw [he] at h0
    exact h0
  refine Row.seq (E := runeE) hR hsz hcap hm (by omega) trivial ?_
  intro k x hk
  have hkl := (List.getElem?_eq_some_iff.1 hk).1
  refine ⟨[.int .i32 x], ⟨rfl, runesG_bnd s s.size 0 x (List.mem_of_getElem? hk)⟩, fun j hj => ?_⟩
  have : j < 1 := hj
  obtain rfl : j = 0 := by omega
  show _[k * 1 + 0]? = _
  rw [Nat.mul_one, Nat.add_zero, List.getElem?_append_left (by simpa using hkl), List.getElem?_map, hk]
  rfl

set_option maxHeartbeats 1600000 in
set_option maxRecDepth 100000 in
theorem rightC_spec {w : World} {c : Cell} (hs : c.name.size ≤ 140737488355328) :
    Calls Try.prog 58 #[cellV c] w (RetV (.bool (cellOK c)) w) := by
  have hem : decide (c.name.size = 0) = decide (c.name.toList = []) := by
    rw [Bool.eq_iff_iff, decide_eq_true_iff, decide_eq_true_iff, ByteArray.toList_eq]
    exact ⟨fun h => List.eq_nil_of_length_eq_zero (by simpa using h), fun h => by simpa using congrArg List.length h⟩
  have hok : cellOK c = (if c.kind = 1 then decide (c.name.toList = []) && decide (0 ≤ c.n) && decide (c.n ≤ 999)
    else if c.kind = 2 then decide (c.name.toList = []) && decide (-2147483647 ≤ c.n) && decide (c.n ≤ 2147483647)
    else if c.kind = 3 then nameOK c.name && decide (0 ≤ c.n) && decide (c.n ≤ 6)
    else false) := by rw [← hem]; rfl
  rw [nameOK_runes] at hok
  have Hok := Lib.hid hok
  clear hok hem
  unfold cellV
  go_enter Try.func58, Try.ntmps58
  by_cases h1 : c.kind = 1
  · by_cases hn : c.name.toList = []
    · go_wp2_with fail
      refine (inI_spec).mono ?_
      rintro e _ ⟨rfl, rfl⟩
      go_wp2_with fail
      all_goals
        go_ret
        refine ⟨ret_bool ?_, Seq.way⟩
        rw [Hok.out]
        simp_all
    · go_wp2_with fail
      go_ret
      refine ⟨ret_bool ?_, Seq.way⟩
      rw [Hok.out]
      simp_all
  · by_cases h2 : c.kind = 2
    · by_cases hn : c.name.toList = []
      · go_wp2_with fail
        refine (inI_spec).mono ?_
        rintro e _ ⟨rfl, rfl⟩
        go_wp2_with fail
        all_goals
          go_ret
          refine ⟨ret_bool ?_, Seq.way⟩
          rw [Hok.out]
          simp_all
      · go_wp2_with fail
        go_ret
        refine ⟨ret_bool ?_, Seq.way⟩
        rw [Hok.out]
        simp_all
    · by_cases h3 : c.kind = 3
      · have Hok3 := Lib.hid (show cellOK c = (decide (1 ≤ c.name.size) && decide (c.name.size ≤ 12) && !(runesL c.name).any oddR && decide (0 ≤ c.n) && decide (c.n ≤ 6)) by
          rw [Hok.out, if_neg h1, if_neg h2, if_pos h3])
        go_wp2_with fail
        refine (inI_spec).mono ?_
        rintro e _ ⟨rfl, rfl⟩
        by_cases hn : 0 ≤ c.n ∧ c.n ≤ 6
        · have hd : (decide (0 ≤ c.n) && decide (c.n ≤ 6)) = true := by simp [hn]
          rw [hd]
          go_wp2_with fail
          refine (inI_spec).mono ?_
          rintro e _ ⟨rfl, rfl⟩
          by_cases hz : 1 ≤ c.name.size ∧ c.name.size ≤ 12
          · have hd2 : (decide ((1 : Int) ≤ (c.name.size : Int)) && decide ((c.name.size : Int) ≤ 12)) = true := by simp; omega
            rw [hd2]
            have hrl : (Conv.runesFrom c.name c.name.size 0 #[]).size ≤ c.name.size := by have := size_runesFrom c.name c.name.size 0 #[]; simpa using this
            have hconv : ∀ W, Sem.run Try.prog (convert 9 91 (.string c.name)) W = .ok (.slice (some ⟨W.heap.size, 0, none⟩) (Conv.runesFrom c.name c.name.size 0 #[]).size (grownCap W (Conv.runesFrom c.name c.name.size 0 #[]).size 0 21))
                (W.drew.alloc (.cells (Conv.runesFrom c.name c.name.size 0 #[] ++ Array.replicate (grownCap W (Conv.runesFrom c.name c.name.size 0 #[]).size 0 21 - (Conv.runesFrom c.name c.name.size 0 #[]).size) (Value.int .i32 0)) 21)) := fun W =>
              run_runes_of_string W _ _ 21 c.name (by kernel_rfl) (by kernel_rfl) (by kernel_rfl) (by omega)
            have hrow := Lib.hid (runes_row (w := w.alloc (.cells #[.int .i64 3, .string c.name, .int .i64 c.n] 41)) (s := c.name) (B := w.heap.size + 1) (cap := grownCap (w.alloc (.cells #[.int .i64 3, .string c.name, .int .i64 c.n] 41)) (Conv.runesFrom c.name c.name.size 0 #[]).size 0 21) (by simp) hz.2 (grownCap_ge _ _ _ _) (grownCap_le_maxLen _ _ _ _ (by simp only [maxLen]; omega)) (e := 21))
            go_wp2_with fail
            refine (rune_has (hrow.out.at Seq.way)).mono ?_
            rintro e w2 ⟨rfl, hb2⟩
            have hb2' : Below w.heap.size w w2 := below_step hb2 Seq.way
            cases hx : (runesL c.name).any oddR
            all_goals
              go_wp2_with fail
              go_ret
              refine ⟨ret_bool ?_, hb2'⟩
              rw [Hok3.out, hx]
              simp [hn, hz]
          · have hd2 : (decide ((1 : Int) ≤ (c.name.size : Int)) && decide ((c.name.size : Int) ≤ 12)) = false := by
              rw [Bool.eq_false_iff]; simp; omega
            rw [hd2]
            go_wp2_with fail
            go_ret
            refine ⟨ret_bool ?_, Seq.way⟩
            rw [Hok3.out]
            simp; omega
        · have hd : (decide (0 ≤ c.n) && decide (c.n ≤ 6)) = false := by
            rw [Bool.eq_false_iff]; simp; omega
          rw [hd]
          go_wp2_with fail
          go_ret
          refine ⟨ret_bool ?_, Seq.way⟩
          rw [Hok3.out]
          simp; omega
      · go_wp2_with fail
        all_goals
          go_ret
          refine ⟨ret_bool ?_, Seq.way⟩
          rw [Hok.out]
          simp_all
end Go.Proofs.Ytgfiaddldmmjiaa
