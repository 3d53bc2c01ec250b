/-
  The program's terms: names by their runes; cells.
-/
import Derived.Test.YtgfiaddldmmjiaaTmE
import Derived.Test.YtgfiaddldmmjiaaRun
import Derived.Laws.IdiomStrings
import Derived.Laws.RangeAny
import Derived.Laws.RangeString
namespace Go.Proofs.Ytgfiaddldmmjiaa
open Go Go.RowKit

/-- A number that tells whether something is there. -/
def HasV (b : Bool) (w : World) (e : Ending) (w' : World) : Prop := ∃ r : Int, e = .returned (.int .i64 r) ∧ decide (0 ≤ r) = b ∧ Below w.heap.size w w'

/-! ### Runes -/
def oddR (r : Int) : Bool := decide (r < 32) || decide (126 < r) || decide (r = 39)
def runeE : Elt Int where
  sz := 1
  pos := by decide
  R := fun _ _ n cs => cs = [.int .i32 n] ∧ 0 ≤ n ∧ n ≤ 2147483647
  len := by rintro _ _ _ _ ⟨rfl, _⟩; rfl
  one := by rintro _ _ _ _ ⟨rfl, _⟩ u hu; simp at hu; subst hu; rfl
  mono := fun h _ _ => h
theorem SeqAt.rune {S : Nat → Prop} {w : World} {ao : Option Addr} {xs : List Int} (h : SeqAt runeE S w ao xs) {k : Nat} (hk : k < xs.length) :
    ∃ b off, ao = some ⟨b, off, none⟩ ∧ S b ∧ b < w.heap.size ∧ w.cell? ⟨b, off + k, none⟩ = some (.int .i32 xs[k]) ∧ 0 ≤ xs[k] ∧ xs[k] ≤ 2147483647 := by
  obtain ⟨b, off, cs, h1, h2, h3, ⟨rfl, h4⟩, h5⟩ := h k _ (List.getElem?_eq_getElem hk)
  have := h5 0 (by decide)
  simp only [runeE, Nat.mul_one, Nat.add_zero] at this
  exact ⟨b, off, h1, h2, h3, this, h4⟩
def runesG (s : ByteArray) : Nat → Nat → List Int
  | 0, _ => []
  | f + 1, i => if i < s.size then ((Utf8.decode s i).1 : Int) :: runesG s f (i + (Utf8.decode s i).2) else []
theorem runesFrom_eq (s : ByteArray) : ∀ (f i : Nat) (acc : Array Value), Conv.runesFrom s f i acc = acc ++ ((runesG s f i).map (Value.int .i32)).toArray
  | 0, _, acc => by simp [Conv.runesFrom, runesG]
  | f + 1, i, acc => by
    unfold Conv.runesFrom runesG
    split
    · simp only
      rw [runesFrom_eq s f]
      simp
    · simp
def runesL (s : ByteArray) : List Int := runesG s s.size 0
theorem runesG_len (s : ByteArray) : ∀ (f i : Nat), (runesG s f i).length ≤ f
  | 0, _ => by simp [runesG]
  | f + 1, i => by
    unfold runesG
    split
    · have := runesG_len s f (i + (Utf8.decode s i).2)
      simp only [List.length_cons]; omega
    · simp
theorem runesG_bnd (s : ByteArray) : ∀ (f i : Nat), ∀ r ∈ runesG s f i, 0 ≤ r ∧ r ≤ 2147483647
  | 0, _, r, h => by simp [runesG] at h
  | f + 1, i, r, h => by
    unfold runesG at h
    split at h
    · rcases List.mem_cons.1 h with rfl | h
      · have := decode_le s i
        omega
      · exact runesG_bnd s f _ r h
    · simp at h
theorem runes_any (s : ByteArray) : ∀ (f i : Nat), s.size ≤ i + f → (runesG s f i).any oddR = (s.toList.drop i).any fun b => oddB b
  | 0, i, h => by
    have hl : s.toList.length = s.size := by rw [ByteArray.toList_eq]; simp
    rw [List.drop_eq_nil_of_le (by omega)]; rfl
  | f + 1, i, h => by
    have hl : s.toList.length = s.size := by rw [ByteArray.toList_eq]; simp
    unfold runesG
    by_cases hi : i < s.size
    · rw [if_pos hi, List.drop_eq_getElem_cons (by omega), List.any_cons, List.any_cons]
      have hb : s.toList[i]'(by omega) = s[i] := by simp only [ByteArray.toList_eq]; rfl
      rw [hb]
      by_cases ha : (s[i]).toNat < 128
      · rw [decode_ascii s i hi ha]
        simp only
        rw [runes_any s f (i + 1) (by omega)]
        congr 1
        unfold oddR oddB
        congr 1
        · congr 1 <;> (apply decide_eq_decide.2; omega)
        · apply decide_eq_decide.2; omega
      · have hd := decode_high s i hi (by omega)
        have e1 : oddR ((Utf8.decode s i).1 : Int) = true := by
          unfold oddR
          rw [decide_eq_true (show (126 : Int) < ((Utf8.decode s i).1 : Int) by omega)]; simp
        have e2 : oddB s[i] = true := by
          unfold oddB
          rw [decide_eq_true (show 126 < (s[i]).toNat by omega)]; simp
        rw [e1, e2]; rfl
    · rw [if_neg hi, List.drop_eq_nil_of_le (by omega)]; rfl
theorem nameOK_runes (s : ByteArray) : nameOK s = (decide (1 ≤ s.size) && decide (s.size ≤ 12) && !(runesL s).any oddR) := by
  unfold nameOK runesL
  rw [runes_any s s.size 0 (by omega), List.drop_zero]
  congr 1
  rw [Bool.eq_iff_iff]
  simp

theorem odd_spec {w : World} {r : Int} : Calls Try.prog 71 #[.int .i32 r] w (RetV (.bool (oddR r)) w) := by
  have ho := Lib.hid (show oddR r = (decide (r < 32) || decide (126 < r) || (r == 39)) by unfold oddR; congr 1)
  go_enter Try.func71, Try.ntmps71
  go_wp2_with fail
  all_goals
    go_ret
    refine ⟨ret_bool ?_, Below.refl _ _⟩
    rw [ho.out]
    try (simp_all <;> omega)

set_option maxHeartbeats 1600000 in
set_option maxRecDepth 100000 in
theorem rune_index {T : Nat → Prop} {w : World} {v : Value} {l : List (Int)} (hl : Seq runeE T w v l) :
    Calls Try.prog 78 #[v, .func (.func 71) #[] #[]] w (HasV (l.any oddR) w) := by
  obtain ⟨P, hP⟩ : ∃ P, P = (oddR : Int → Bool) := ⟨_, rfl⟩
  have HP := Lib.hid hP
  obtain ⟨ao, cap, rfl, h1, h2, h3, h4, h5⟩ := hl
  rw [← hP]
  clear hP
  go_enter Try.func78, Try.ntmps78
  go_wp2_with fail
  go_loopw [8] (fun i wr => ∃ k : Nat, k ≤ l.length ∧ i = .int .i64 k ∧ Hid (∀ x ∈ l.take k, P x = false) ∧ Below w.heap.size w wr) (fun i _ => l.length - (intOf i).toNat)
  case atStart => exact ⟨0, Nat.zero_le _, rfl, Lib.hid (by simp), Seq.way⟩
  case round =>
    obtain ⟨k, hk, rfl, hno, hbr⟩ := hrel
    have hzr := hbr.size
    by_cases hlt : k < l.length
    · obtain ⟨b, off, rfl, -, -, c0, -⟩ := (h5.below hbr fun _ _ h => h).rune hlt
      have hmem := Lib.hid (List.getElem_mem hlt)
      have hxs := Lib.hid (show P l[k] = false → ∀ y ∈ l.take (k + 1), P y = false from fun hp y hy => by
        rw [List.take_succ_eq_append_getElem hlt] at hy
        rcases List.mem_append.1 hy with h | h
        · exact hno.out y h
        · rw [List.mem_singleton] at h; rw [h]; exact hp)
      have hxa := Lib.hid (show P l[k] = true → l.any P = true from fun hp => List.any_eq_true.2 ⟨l[k], List.getElem_mem hlt, hp⟩)
      obtain ⟨x, hxe⟩ : ∃ x, x = l[k] := ⟨_, rfl⟩
      rw [← hxe] at hxs hxa hmem c0
      clear hxe h5 hno
      have hkl : (k : Int) < (l.length : Int) := by omega
      have hk0 : (0 : Int) ≤ (k : Int) := by omega
      go_wp2_with fail
      refine (odd_spec).mono ?_
      rw [show oddR x = P x by rw [← HP.out]]
      rintro e w' ⟨rfl, hb'⟩
      have hbw := below_step hb' hbr
      cases hp : P x
      · have hst := Lib.hid (hxs.out hp)
        clear hp
        go_wp2_with fail
        go_roundw
        case rel => exact ⟨k + 1, hlt, by go_num, hst, hbw⟩
        case measure => simp [intOf]; omega
      · have hst := Lib.hid (hxa.out hp)
        clear hp
        go_wp2_with fail
        go_ret
        exact ⟨_, rfl, by rw [hst.out]; simp, hbw⟩
    · obtain rfl : k = l.length := by omega
      have hst := Lib.hid (show l.any P = false by
        rw [List.any_eq_false]; intro x hx; rw [hno.out x (by rw [List.take_length]; exact hx)]; simp)
      clear hno
      go_wp2_with fail
      go_ret
      exact ⟨_, rfl, by rw [hst.out]; rfl, hbr⟩

theorem rune_has {T : Nat → Prop} {w : World} {v : Value} {l : List (Int)} (hl : Seq runeE T w v l) :
    Calls Try.prog 72 #[v, .func (.func 71) #[] #[]] w (RetV (.bool (l.any oddR)) w) := by
  have hl' := Lib.hid hl
  obtain ⟨ao, cap, rfl, -⟩ := hl
  go_enter Try.func72, Try.ntmps72
  go_wp2_with fail
  refine (rune_index hl'.out).mono ?_
  rintro e w' ⟨r, rfl, hr, hb⟩
  have hr := Lib.hid hr
  go_wp2_with fail
  all_goals go_ret
  all_goals exact ⟨ret_bool (by rw [← hr.out]), hb⟩
end Go.Proofs.Ytgfiaddldmmjiaa
