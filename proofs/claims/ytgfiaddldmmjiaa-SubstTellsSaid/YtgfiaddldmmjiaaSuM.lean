/-
  Layer 2, the program: slices.IndexFunc, slices.DeleteFunc at bindings, with Compose's callback.
-/
import Derived.Test.YtgfiaddldmmjiaaSuK
import Derived.Test.YtgfiaddldmmjiaaFlatE
namespace Go.Proofs.Ytgfiaddldmmjiaa
open Go Go.RowKit

def ownB (b : Bnd) : Bool := isV b.var b.t
theorem comp1_spec {S : Nat → Prop} {w : World} {v : Value} {n : Int} {t : List Cell} (ht : Seq cellE S w v t) :
    Calls Try.prog 42 #[.agg #[.int .i64 n, v]] w (RetV (.bool (isV n t)) w) := by
  have Ht := Lib.hid ht
  obtain ⟨ta, tc, rfl, -⟩ := ht
  go_enter Try.func42, Try.ntmps42
  go_wp2_with fail
  refine (is_spec (n := n) (Ht.out.at Seq.way)).mono ?_
  rintro e w1 ⟨rfl, hq⟩
  have hb := below_step (hq.below _) (Seq.way : Below w.heap.size w _)
  go_wp2_with fail
  go_ret
  exact ⟨rfl, hb⟩

def idxB (l : List Bnd) : Int := if l.any ownB = true then (l.findIdx ownB : Nat) else -1
theorem idxB_at {l : List Bnd} {k : Nat} (hk : k < l.length) (h : ∀ x ∈ l.take k, ownB x = false) (hp : ownB l[k] = true) : idxB l = (k : Int) := by
  unfold idxB
  rw [if_pos (List.any_eq_true.2 ⟨_, List.getElem_mem hk, hp⟩)]
  congr 1
  rw [List.findIdx_eq hk]
  exact ⟨hp, fun j hj => h _ (by rw [List.mem_iff_getElem]; exact ⟨j, by rw [List.length_take]; omega, by rw [List.getElem_take]⟩)⟩

set_option maxHeartbeats 1600000 in
set_option maxRecDepth 100000 in
theorem indexB_spec {S : Nat → Prop} {w : World} {v : Value} {l : List Bnd} (hl : Seq bindE S w v l) :
    Calls Try.prog 52 #[v, .func (.func 42) #[] #[]] w (RetV (.int .i64 (idxB l)) w) := by
  obtain ⟨ao, cap, rfl, h1, h2, h3, h4, h5⟩ := hl
  go_enter Try.func52, Try.ntmps52
  go_wp2_with fail
  go_loopw [8] (fun i wr => ∃ k : Nat, k ≤ l.length ∧ i = .int .i64 k ∧ Hid (∀ x ∈ l.take k, ownB x = false) ∧ Below w.heap.size w wr) (fun i _ => l.length - (intOf i).toNat)
  case atStart => exact ⟨0, Nat.zero_le _, rfl, Lib.hid (by simp), Seq.way⟩
  case round =>
    obtain ⟨k, hk, rfl, hno, hbr⟩ := hrel
    have hzr := hbr.size
    by_cases hlt : k < l.length
    · obtain ⟨b1, o1, p1, n1, rfl, -, -, c0, c1, -, hX⟩ := (h5.below hbr fun _ _ h => h).bnd2 hlt
      have HX := Lib.hid hX
      have hxs := Lib.hid (show ownB l[k] = false → ∀ y ∈ l.take (k + 1), ownB y = false from fun hp y hy => by
        rw [List.take_succ_eq_append_getElem hlt] at hy
        rcases List.mem_append.1 hy with h | h
        · exact hno.out y h
        · rw [List.mem_singleton] at h; rw [h]; exact hp)
      have hxa := Lib.hid (show ownB l[k] = true → idxB l = (k : Int) from fun hp => idxB_at hlt hno.out hp)
      have hpe := Lib.hid (show ownB l[k] = isV l[k].var l[k].t from rfl)
      obtain ⟨p, hp⟩ : ∃ p, p = ownB l[k] := ⟨_, rfl⟩
      rw [← hp] at hxs hxa hpe
      obtain ⟨⟨xa, xt⟩, hxe⟩ : ∃ x, x = l[k] := ⟨_, rfl⟩
      rw [← hxe] at c0 c1 HX hpe
      dsimp only at c0 c1 HX hpe
      clear hxe h5 hno hX hp
      have hkl : (k : Int) < (l.length : Int) := by omega
      have hk0 : (0 : Int) ≤ (k : Int) := by omega
      go_wp2_with fail
      refine (comp1_spec (n := xa) HX.out).mono ?_
      rw [← hpe.out]
      rintro e w' ⟨rfl, hb'⟩
      have hbw := below_step hb' hbr
      cases p
      · have hst := Lib.hid (hxs.out rfl)
        go_wp2_with fail
        go_roundw
        case rel => exact ⟨k + 1, hlt, by go_num, hst, hbw⟩
        case measure => simp [intOf]; omega
      · have hst := Lib.hid (hxa.out rfl)
        go_wp2_with fail
        go_ret
        exact ⟨ret_int (by rw [hst.out]), hbw⟩
    · obtain rfl : k = l.length := by omega
      have hst := Lib.hid (show idxB l = -1 by
        unfold idxB
        rw [if_neg (by rw [Bool.not_eq_true, List.any_eq_false]; intro x hx; rw [hno.out x (by rw [List.take_length]; exact hx)]; simp)])
      clear hno
      go_wp2_with fail
      go_ret
      exact ⟨ret_int (by rw [hst.out]), hbr⟩

/-! ### DeleteFunc -/
def stayB (l : List Bnd) (j : Nat) : List Bnd := (l.take j).filter fun x => !ownB x
theorem stayB_yes {l : List Bnd} {j : Nat} (hj : j < l.length) (h : ownB l[j] = false) : stayB l (j + 1) = stayB l j ++ [l[j]] := by
  unfold stayB; rw [List.take_succ_eq_append_getElem hj, List.filter_append]; simp [h]
theorem stayB_no {l : List Bnd} {j : Nat} (hj : j < l.length) (h : ownB l[j] = true) : stayB l (j + 1) = stayB l j := by
  unfold stayB; rw [List.take_succ_eq_append_getElem hj, List.filter_append]; simp [h]
theorem stayB_first {l : List Bnd} : stayB l (l.findIdx ownB) = l.take (l.findIdx ownB) := by
  unfold stayB
  rw [List.filter_eq_self]
  intro x hx
  obtain ⟨j, hj, rfl⟩ := List.mem_iff_getElem.1 hx
  rw [List.length_take] at hj
  rw [List.getElem_take]
  have := List.not_of_lt_findIdx (p := ownB) (xs := l) (i := j) (by omega)
  simpa using this
theorem stayB_all {l : List Bnd} (h : l.any ownB = false) : stayB l l.length = l := by
  unfold stayB
  rw [List.take_length, List.filter_eq_self]
  intro x hx
  have := List.any_eq_false.1 h x hx
  simpa using this
def keptL (l : List Bnd) : List Bnd := l.filter fun x => !ownB x
theorem stayB_kept (l : List Bnd) : stayB l l.length = keptL l := by unfold stayB keptL; rw [List.take_length]

/-- A binding more. -/
theorem FlatE.put2 {S : Nat → Prop} {w : World} {cur : List Value} {n : Nat} {l : List Bnd} {x : Bnd} {v : Value} (h : FlatE bindE S w (cur.take (n * 2)) l) (hn : n * 2 + 1 < cur.length) (h0 : IntOK x.var) (hv : Seq cellE S w v x.t) :
    FlatE bindE S w (((cur.set (n * 2) (.int .i64 x.var)).set (n * 2 + 1) v).take ((n + 1) * 2)) (l ++ [x]) := by
  have e : ((cur.set (n * 2) (.int .i64 x.var)).set (n * 2 + 1) v).take ((n + 1) * 2) = cur.take (n * 2) ++ [.int .i64 x.var, v] := by
    rw [show (n + 1) * 2 = n * 2 + 1 + 1 by omega, List.take_succ_eq_append_getElem (by simp; omega), List.take_set_of_le (Nat.le_refl _), List.take_succ_eq_append_getElem (by simp; omega), List.take_set_of_le (Nat.le_refl _)]
    simp
  rw [e]
  exact h.append (FlatE.single (E := bindE) (x := x) ⟨v, rfl, h0, hv⟩)
theorem zeroB (w : World) : (zeroValue 44).run Try.prog w = .ok (.agg #[.int .i64 0, .slice none 0 0]) w := by kernel_rfl

theorem grown_kept {w w' : World} {g : Nat} (h : w.grownBy w' (some g)) {b : Nat} (hb : b < w.heap.size) (hne : b ≠ g) : w'.heap[b]? = w.heap[b]? := h.block b hb fun e => hne (by simpa using e)
theorem grown_of_below {w0 w w' : World} {g : Nat} (h : w0.grownBy w (some g)) (hb : Below w.heap.size w w') : w0.grownBy w' (some g) :=
  ⟨hb.os.trans h.os, hb.tape.trans h.tape, hb.output.trans h.output, Nat.le_trans h.size hb.size, fun k hk hne => (hb.block k (Nat.lt_of_lt_of_le hk h.size)).trans (h.block k hk hne)⟩
end Go.Proofs.Ytgfiaddldmmjiaa
