/-
  R03: terms made of any cells.
  R03: Made and Atom, walked.
  R03.Atom; R12: facts, rows: Made, Fact, Has, Drop, less, Diff.
  R12: Has, Drop, less, Diff, Made.
  R12: Add.
  R12: Made.
-/
import Derived.Test.YtckkjjiaecnciaaGreatTmE
import Derived.Deep.Cut
import Derived.Deep.DeepCutAuto
import Derived.Deep.RegionHeld3
namespace Go.Proofs.YtckkjjiaecnciaaGreat
section
open Go Go.RowKit

theorem i64_mask (n : Int) (k : Nat) (hk : k ≤ 16) (m : Nat) (hm : m = 2 ^ k - 1) : bits .and .i64 n (m : Int) = n % ((2 ^ k : Nat) : Int) := by
  have hp : (2 : Nat) ^ k ≤ 65536 := Nat.le_trans (Nat.pow_le_pow_right (by omega) hk) (by decide)
  have hp0 : 0 < (2 : Nat) ^ k := Nat.pow_pos (by omega)
  have hd : ∃ q, 2 ^ 64 = 2 ^ k * q := ⟨2 ^ (64 - k), by rw [← Nat.pow_add]; congr 1; omega⟩
  have h1 : (BitVec.ofInt 64 (m : Int)).toNat = 2 ^ k - 1 := by
    rw [BitVec.toNat_ofInt]
    omega
  have key : (BitVec.ofInt 64 n &&& BitVec.ofInt 64 (m : Int)).toNat = (n % ((2 ^ 64 : Nat) : Int)).toNat % 2 ^ k := by
    rw [BitVec.toNat_and, BitVec.toNat_ofInt, h1, Nat.and_two_pow_sub_one_eq_mod]
  show IntKind.i64.wrap ((BitVec.ofInt 64 n &&& BitVec.ofInt 64 (m : Int)).toNat : Nat) = _
  rw [key, IntKind.wrap_i64]
  have h2 : (((n % ((2 ^ 64 : Nat) : Int)).toNat % 2 ^ k : Nat) : Int) = n % ((2 ^ k : Nat) : Int) := by
    rw [Int.natCast_emod, Int.toNat_of_nonneg (Int.emod_nonneg _ (by decide))]
    exact Int.emod_emod_of_dvd _ (by
      obtain ⟨q, hq⟩ := hd
      rw [hq]
      exact ⟨(q : Int), by rw [Int.natCast_mul]⟩)
  rw [h2]
  have h3 := Int.emod_nonneg n (show ((2 ^ k : Nat) : Int) ≠ 0 by omega)
  have h4 := Int.emod_lt_of_pos n (show (0 : Int) < ((2 ^ k : Nat) : Int) by omega)
  omega
theorem i64_and1 (n : Int) : bits .and .i64 n 1 = n % 2 := i64_mask n 1 (by omega) 1 (by decide)
theorem i64_and3 (n : Int) : bits .and .i64 n 3 = n % 4 := i64_mask n 2 (by omega) 3 (by decide)
theorem i64_and7 (n : Int) : bits .and .i64 n 7 = n % 8 := i64_mask n 3 (by omega) 7 (by decide)
theorem nat_and2 (x : Nat) : x &&& 2 = x % 4 / 2 * 2 := by
  have h : x &&& 2 = (x &&& 3) &&& 2 := by rw [Nat.and_assoc]; rfl
  rw [h, show (3 : Nat) = 2 ^ 2 - 1 by decide, Nat.and_two_pow_sub_one_eq_mod]
  have h4 : x % 2 ^ 2 < 4 := Nat.mod_lt _ (by decide)
  rw [show x % 4 = x % 2 ^ 2 by rfl]
  generalize x % 2 ^ 2 = r at h4
  rcases (show r = 0 ∨ r = 1 ∨ r = 2 ∨ r = 3 by omega) with rfl | rfl | rfl | rfl <;> rfl
theorem i64_and2 (n : Nat) (hn : n < 9000000000000000000) : bits .and .i64 (n : Int) 2 = ((n % 4 / 2 * 2 : Nat) : Int) := by
  have h1 : (BitVec.ofInt 64 2).toNat = 2 := by decide
  have h2 : (BitVec.ofInt 64 (n : Int)).toNat = n := by rw [BitVec.toNat_ofInt]; omega
  show IntKind.i64.wrap ((BitVec.ofInt 64 (n : Int) &&& BitVec.ofInt 64 2).toNat : Nat) = _
  rw [BitVec.toNat_and, h1, h2, nat_and2, IntKind.wrap_i64]
  omega

/-! ### The names -/
def nameM (s : ByteArray) : ByteArray := if s.size % 2 = 1 then ⟨#[102]⟩ else if s.size % 4 / 2 = 1 then ⟨#[103]⟩ else ⟨#[97]⟩
theorem nameM_ok (s : ByteArray) : nameOK (nameM s) = true := by
  unfold nameM
  split
  · decide +kernel
  · split <;> decide +kernel

/-! ### Terms made of any cells -/
def aC : Cell := ⟨3, ⟨#[97]⟩, 0⟩
def pickC (l : List Cell) (most i need : Nat) : Cell :=
  match l[i]? with
  | none => aC
  | some c => if c.kind % 4 = 1 then ⟨1, ⟨#[]⟩, c.n % 8⟩ else if c.kind % 4 = 2 then ⟨2, ⟨#[]⟩, c.n % 4⟩
    else if ((i + need : Nat) : Int) + c.n % 4 ≤ (most : Int) then ⟨3, nameM c.name, c.n % 4⟩ else aC
def madeGo : Nat → List Cell → Nat → List Cell → Nat → List Cell
  | 0, _, _, out, _ => out
  | f + 1, l, most, out, need => if need = 0 then out else madeGo f l most (out ++ [pickC l most out.length need]) (need - 1 + arity (pickC l most out.length need))
def madeT (most : Nat) (l : List Cell) : List Cell := if rightT l = true ∧ l.length ≤ most then l else madeGo most l most [] 1
theorem pickC_ok (l : List Cell) (most i need : Nat) : cellOK (pickC l most i need) = true := by
  unfold pickC
  have ha : cellOK aC = true := by decide +kernel
  cases l[i]? with
  | none => exact ha
  | some c =>
    simp only
    split
    · unfold cellOK
      rw [if_pos rfl]
      simp only [Bool.and_eq_true, decide_eq_true_eq]
      exact ⟨⟨rfl, by omega⟩, by omega⟩
    · split
      · unfold cellOK
        rw [if_neg (by simp), if_pos rfl]
        simp only [Bool.and_eq_true, decide_eq_true_eq]
        exact ⟨⟨rfl, by omega⟩, by omega⟩
      · split
        · unfold cellOK
          rw [if_neg (by simp), if_neg (by simp), if_pos rfl]
          simp only [Bool.and_eq_true, decide_eq_true_eq]
          exact ⟨⟨nameM_ok _, by omega⟩, by omega⟩
        · exact ha
theorem pickC_arity (l : List Cell) (most i need : Nat) (h : i + need ≤ most) : i + need + arity (pickC l most i need) ≤ most := by
  unfold pickC
  have ha : arity aC = 0 := by decide
  cases l[i]? with
  | none => simp only [ha]; omega
  | some c =>
    simp only
    split
    · rw [show arity ⟨1, ⟨#[]⟩, c.n % 8⟩ = 0 by simp [arity]]
      omega
    · split
      · rw [show arity ⟨2, ⟨#[]⟩, c.n % 4⟩ = 0 by simp [arity]]
        omega
      · split
        · rw [show arity ⟨3, nameM c.name, c.n % 4⟩ = (c.n % 4).toNat by unfold arity; rw [if_pos rfl]]
          omega
        · simp only [ha]; omega
theorem madeGo_right (l : List Cell) (most : Nat) : ∀ (f : Nat) (out : List Cell) (need : Nat), out.length + need ≤ most → most ≤ out.length + f → (∀ r, endC 1 (out ++ r) = (endC need r).map (out.length + ·)) →
    endC 1 (madeGo f l most out need) = some (madeGo f l most out need).length ∧ (madeGo f l most out need).length ≤ most
  | 0, out, need, h, hf, hi => by
    obtain rfl : need = 0 := by omega
    have := hi []
    rw [List.append_nil, endC_zero] at this
    exact ⟨by rw [madeGo, this]; rfl, by rw [madeGo]; omega⟩
  | f + 1, out, need, h, hf, hi => by
    unfold madeGo
    split
    · rename_i h0
      subst h0
      have := hi []
      rw [List.append_nil, endC_zero] at this
      exact ⟨by rw [this]; rfl, by omega⟩
    · rename_i h0
      have hok := pickC_ok l most out.length need
      have har := pickC_arity l most out.length need h
      refine madeGo_right l most f _ _ (by simp; omega) (by simp; omega) fun r => ?_
      rw [List.append_assoc, hi, List.singleton_append]
      obtain ⟨n', rfl⟩ : ∃ n', need = n' + 1 := ⟨need - 1, by omega⟩
      rw [endC_succ, if_pos hok, Nat.add_sub_cancel, Option.map_map]
      congr 1
      funext m
      simp; omega
theorem madeT_right {most : Nat} (l : List Cell) (h : 1 ≤ most) (h2 : most ≤ 200) : RightT (madeT most l) ∧ (madeT most l).length ≤ most := by
  unfold madeT
  split
  · rename_i hr
    exact ⟨of_decide_eq_true hr.1, hr.2⟩
  · obtain ⟨h3, h4⟩ := madeGo_right l most most [] 1 (by simpa using h) (by simp) (fun r => by simp)
    exact ⟨⟨by omega, h3⟩, h4⟩
theorem madeT_self {most : Nat} {l : List Cell} (h : RightT l) (h2 : l.length ≤ most) : madeT most l = l := by
  unfold madeT
  rw [if_pos ⟨decide_eq_true h, h2⟩]
end
section
open Go Go.RowKit

theorem infoCell : (Tryz.prog.info? 51).map (fun i => (i.zero, i.size, i.bytes)) = some (some (.agg #[.int .i64 0, .string ⟨#[]⟩, .int .i64 0]), 3, 32) := by kernel_rfl

section
variable {P : Program} {ops : Array Oper} {rest : List Oper} {o : Oper} {a : Act} {Q : Exit → Act → World → Prop}
theorem wpList_app_cell {S : Nat → Prop} {w wm : World} (hgd : o.guard = none) (s x : Operand) (t : TypeId)
    (ho : o.op = .call { callee := .builtin .append, args := #[s, x], argTypes := #[t, t] })
    {base : Nat} {e : TypeId} (ht : P.underlying t = some (.slice e)) (hi : (P.info? e).map (fun i => (i.zero, i.size, i.bytes)) = some (some (.agg #[.int .i64 0, .string ⟨#[]⟩, .int .i64 0]), 3, 32))
    {v : Value} {xs : List Cell} (hs : a.eval s = v) (hown : Own cellE S base e wm v xs) {B c : Nat} (hx : a.eval x = .slice (some ⟨B, 0, none⟩) 1 c)
    (hbw : Below wm.heap.size wm w) {y : Cell} (h1 : IntOK y.kind) (h2 : IntOK y.n) (h3 : y.name.size ≤ 140737488355328)
    (hc0 : w.cell? ⟨B, 0, none⟩ = some (.int .i64 y.kind)) (hc1 : w.cell? ⟨B, 1, none⟩ = some (.string y.name)) (hc2 : w.cell? ⟨B, 2, none⟩ = some (.int .i64 y.n)) (hbytes : xs.length ≤ 1000000000000) (hbase : base ≤ wm.heap.size)
    (h : ∀ ao cap w', Own cellE S base e w' (.slice ao (xs.length + 1) cap) (xs ++ [y]) → Kept base wm w w' v (.slice ao (xs.length + 1) cap) → wpList P ops Q rest (a.put o.dst (.slice ao (xs.length + 1) cap)) w') : wpList P ops Q (o :: rest) a w :=
  wpList_app1 (E := cellE) (Sy := fun _ => False) (y := y) (cs := [.int .i64 y.kind, .string y.name, .int .i64 y.n]) hgd s x t ho ht hi rfl hs hown hbw _ _ hx ⟨rfl, h1, h2, h3⟩ (fun _ h => h.elim)
    (by
      intro j hj
      have h3 : j < 3 := hj
      rcases (show j = 0 ∨ j = 1 ∨ j = 2 by omega) with rfl | rfl | rfl
      · exact hc0
      · exact hc1
      · exact hc2) (by omega) (by simp only [maxLen]; omega) hbase
    fun ao cap w' h1 h2 h3 h4 => h ao cap w' h1 (Kept.of h2 h3 hbw hbase h4)
end

theorem nameM_len (s : ByteArray) : (nameM s).size = 1 := by unfold nameM; split <;> (try split) <;> rfl
theorem pickC_bnd (l : List Cell) (most i need : Nat) : IntOK (pickC l most i need).kind ∧ IntOK (pickC l most i need).n ∧ (pickC l most i need).name.size ≤ 1 := by
  have ha : IntOK aC.kind ∧ IntOK aC.n ∧ aC.name.size ≤ 1 := ⟨⟨by decide, by decide⟩, ⟨by decide, by decide⟩, by decide⟩
  unfold pickC
  cases l[i]? with
  | none => exact ha
  | some c =>
    simp only
    split
    · exact ⟨⟨by simp, by simp⟩, ⟨by show _ ≤ c.n % 8; omega, by show c.n % 8 ≤ _; omega⟩, by show (⟨#[]⟩ : ByteArray).size ≤ 1; decide⟩
    · split
      · exact ⟨⟨by simp, by simp⟩, ⟨by show _ ≤ c.n % 4; omega, by show c.n % 4 ≤ _; omega⟩, by show (⟨#[]⟩ : ByteArray).size ≤ 1; decide⟩
      · split
        · exact ⟨⟨by simp, by simp⟩, ⟨by show _ ≤ c.n % 4; omega, by show c.n % 4 ≤ _; omega⟩, by simp [nameM_len]⟩
        · exact ha


end
section
open Go Go.RowKit

/-! ### Atom -/
def atomT (most : Nat) (l : List Cell) : List Cell := if isFun (madeT most l) = true then madeT most l else [aC]
theorem aC_right : RightT [aC] := by decide +kernel
theorem atomT_right {most : Nat} (l : List Cell) (h : 1 ≤ most) (h2 : most ≤ 200) : RightT (atomT most l) ∧ (atomT most l).length ≤ most ∧ isFun (atomT most l) = true := by
  have := madeT_right l h h2
  unfold atomT
  split
  · rename_i hf; exact ⟨this.1, this.2, hf⟩
  · exact ⟨aC_right, h, by decide⟩

theorem aC_seq {w : World} {B : Nat} (h : w.heap[B]? = some (.cells #[.int .i64 3, .string ⟨#[97]⟩, .int .i64 0] 51 (0, 0))) :
    Seq cellE (fun b => b = B) w (.slice (some ⟨B, 0, none⟩) 1 1) [aC] := by
  refine Row.seq (T := 51) (vs := [.int .i64 3, .string ⟨#[97]⟩, .int .i64 0]) h rfl (Nat.le_refl _) (by simp [maxLen]) (by simp) rfl ?_
  intro k x hk
  have hk2 : k < 1 := by have := (List.getElem?_eq_some_iff.1 hk).1; simpa using this
  obtain rfl : k = 0 := by omega
  simp at hk; subst hk
  refine ⟨_, ⟨rfl, ⟨by decide, by decide⟩, ⟨by decide, by decide⟩, by decide⟩, ?_⟩
  intro j hj
  have : j < 3 := hj
  rcases (show j = 0 ∨ j = 1 ∨ j = 2 by omega) with rfl | rfl | rfl <;> rfl


/-! ### One cell of a row of one's own is written -/
theorem ownsRow_set {w : World} {base : Nat} {e : TypeId} {sz : Nat} {n cap g : Nat} {vs : List Value} (h : w.ownsRow base e sz (.slice (some ⟨g, 0, none⟩) n cap) n vs) {j : Nat} (_ : j < n * sz) (u : Value) :
    (w.setCell ⟨g, j, none⟩ u).ownsRow base e sz (.slice (some ⟨g, 0, none⟩) n cap) n (vs.set j u) := by
  obtain ⟨hl, ⟨h0, -⟩ | ⟨g', cap', cur, he, h0, h1, h2, h3, h4, h5⟩⟩ := h
  · simp at h0
  · simp only [Value.slice.injEq, Option.some.injEq, Addr.mk.injEq, true_and, and_true] at he
    obtain ⟨rfl, rfl⟩ := he
    refine ⟨by rw [List.length_set]; exact hl, .inr ⟨g, cap, cur.setIfInBounds j u, rfl, h0, ?_, h2, h3, by simpa using h4, ?_⟩⟩
    · have hlt : g < w.heap.size := by
        rcases Nat.lt_or_ge g w.heap.size with hlt | hge
        · exact hlt
        · rw [Array.getElem?_eq_none hge] at h1; simp at h1
      rw [Array.getElem?_eq_getElem hlt] at h1
      simp only [Option.some.injEq] at h1
      simp [World.setCell, Array.getElem?_modify, Array.getElem?_eq_getElem hlt, h1]
    · rw [Array.toList_setIfInBounds, List.take_set, h5]
theorem Own.setCell3 {S : Nat → Prop} {base : Nat} {e : TypeId} {w : World} {g cap : Nat} {xs : List Cell} (h : Own cellE S base e w (.slice (some ⟨g, 0, none⟩) xs.length cap) xs) {k : Nat} (hk : k < xs.length) {y : Cell} (h1 : IntOK y.kind) (h2 : IntOK y.n) (h3 : y.name.size ≤ 140737488355328) :
    Own cellE S base e (((w.setCell ⟨g, k * 3, none⟩ (.int .i64 y.kind)).setCell ⟨g, k * 3 + 1, none⟩ (.string y.name)).setCell ⟨g, k * 3 + 2, none⟩ (.int .i64 y.n)) (.slice (some ⟨g, 0, none⟩) xs.length cap) (xs.set k y) := by
  obtain ⟨vs, hv1, hv2⟩ := h
  have hl : vs.length = xs.length * 3 := hv1.1
  have e1 := ownsRow_set (ownsRow_set (ownsRow_set hv1 (j := k * 3) (by show k * 3 < xs.length * 3; omega) (.int .i64 y.kind)) (j := k * 3 + 1) (by show k * 3 + 1 < xs.length * 3; omega) (.string y.name)) (j := k * 3 + 2) (by show k * 3 + 2 < xs.length * 3; omega) (.int .i64 y.n)
  refine ⟨_, by rw [List.length_set]; exact e1, fun m x hx => ?_⟩
  by_cases hkm : k = m
  · subst hkm
    rw [List.getElem?_set_self hk] at hx
    simp only [Option.some.injEq] at hx
    subst hx
    refine ⟨_, ⟨rfl, h1, h2, h3⟩, fun j hj => ?_⟩
    have hj3 : j < 3 := hj
    show (((vs.set (k * 3) _).set (k * 3 + 1) _).set (k * 3 + 2) _)[k * 3 + j]? = _
    rcases (show j = 0 ∨ j = 1 ∨ j = 2 by omega) with rfl | rfl | rfl
    · rw [List.getElem?_set_ne (by omega), List.getElem?_set_ne (by omega), Nat.add_zero, List.getElem?_set_self (by omega)]; rfl
    · rw [List.getElem?_set_ne (by omega), List.getElem?_set_self (by simp; omega)]; rfl
    · rw [List.getElem?_set_self (by simp; omega)]; rfl
  · rw [List.getElem?_set_ne hkm] at hx
    obtain ⟨cs, h4, h5⟩ := hv2 m x hx
    refine ⟨cs, h4, fun j hj => ?_⟩
    have hj3 : j < 3 := hj
    have := h5 j hj
    show (((vs.set (k * 3) _).set (k * 3 + 1) _).set (k * 3 + 2) _)[m * 3 + j]? = _
    rw [List.getElem?_set_ne (by omega), List.getElem?_set_ne (by omega), List.getElem?_set_ne (by omega)]
    exact this


end
section
open Go Go.RowKit
/-! ### less, Diff -/
def lessT (a b : List (List Cell)) : List (List Cell) := fltL (fun t => !decide (t ∈ b)) a


/-- Two rows, told together. -/
def Ret2 (P : Value → Value → World → Prop) (w : World) (e : Ending) (w' : World) : Prop := ∃ a b, e = .returned (.tuple #[a, b]) ∧ Below w.heap.size w w' ∧ P a b w'


/-! ### Drop -/
def dropT (t : List Cell) (l : List (List Cell)) : List (List Cell) := fltL (fun x => !decide (x = t)) l
def dropE (l : List (List Cell)) (t : List Cell) : Int := if factT t = true then (if t ∈ l then 0 else 3) else 120
def dropO (l : List (List Cell)) (t : List Cell) : List (List Cell) := if factT t = true ∧ t ∈ l then dropT t l else []
/-- A row and an error's number. -/
def RetE (P : Value → World → Prop) (n : Int) (w : World) (e : Ending) (w' : World) : Prop := ∃ o, e = .returned (.tuple #[o, .int .i64 n]) ∧ Below w.heap.size w w' ∧ P o w'


end
section
open Go Go.RowKit

def insT (t : List Cell) : List (List Cell) → List (List Cell)
  | [] => [t]
  | a :: l => if cmpR t a < 0 then t :: a :: l else a :: insT t l
def insStep (t : List Cell) (st : List (List Cell) × Bool) (a : List Cell) : List (List Cell) × Bool := if st.2 = false ∧ cmpR t a < 0 then (st.1 ++ [t] ++ [a], true) else (st.1 ++ [a], st.2)
def insTo (t : List Cell) (l : List (List Cell)) : List (List Cell) × Bool := l.foldl (insStep t) ([], false)
theorem insTo_snoc {t : List Cell} {l : List (List Cell)} {k : Nat} (hk : k < l.length) : insTo t (l.take (k + 1)) = insStep t (insTo t (l.take k)) l[k] := by
  unfold insTo
  rw [List.take_succ_eq_append_getElem hk, List.foldl_append]; rfl
theorem foldl_insStep (t : List Cell) : ∀ (l : List (List Cell)) (o : List (List Cell)), (l.foldl (insStep t) (o, true)) = (o ++ l, true)
  | [], o => by simp
  | a :: l, o => by
    rw [List.foldl_cons]
    show l.foldl (insStep t) (if _ then _ else (o ++ [a], true)) = _
    rw [if_neg (by simp), foldl_insStep t l]
    simp
theorem insT_eq (t : List Cell) (l : List (List Cell)) : insT t l = if (insTo t l).2 = true then (insTo t l).1 else (insTo t l).1 ++ [t] := by
  have key : ∀ (l o : List (List Cell)), o ++ insT t l = if (l.foldl (insStep t) (o, false)).2 = true then (l.foldl (insStep t) (o, false)).1 else (l.foldl (insStep t) (o, false)).1 ++ [t] := by
    intro l
    induction l with
    | nil => intro o; simp [insT]
    | cons a l ih =>
      intro o
      rw [List.foldl_cons]
      unfold insT
      by_cases h : cmpR t a < 0
      · have e : insStep t (o, false) a = (o ++ [t] ++ [a], true) := by unfold insStep; rw [if_pos ⟨rfl, h⟩]
        rw [if_pos h, e, foldl_insStep]
        simp
      · have e : insStep t (o, false) a = (o ++ [a], false) := by unfold insStep; rw [if_neg (fun h' => h h'.2)]
        rw [if_neg h, e, ← ih]
        simp
  have := key l []
  rw [List.nil_append] at this
  exact this
theorem insStep_len (t : List Cell) (st : List (List Cell) × Bool) (a : List Cell) (n : Nat) (h : st.1.length ≤ n + (if st.2 = true then 1 else 0)) : (insStep t st a).1.length ≤ n + 1 + (if (insStep t st a).2 = true then 1 else 0) := by
  unfold insStep
  split
  · rename_i hc
    rw [if_neg (by rw [hc.1]; simp)] at h
    simp; omega
  · simp; omega
theorem insTo_len (t : List Cell) (l : List (List Cell)) : (insTo t l).1.length ≤ l.length + 1 := by
  have key : ∀ (l : List (List Cell)) (st : List (List Cell) × Bool) (n : Nat), st.1.length ≤ n + (if st.2 = true then 1 else 0) → (l.foldl (insStep t) st).1.length ≤ n + l.length + 1 := by
    intro l
    induction l with
    | nil => intro st n h; simp only [List.foldl_nil, List.length_nil]; split at h <;> omega
    | cons a l ih =>
      intro st n h
      rw [List.foldl_cons]
      have := ih _ _ (insStep_len t st a n h)
      simp only [List.length_cons]
      omega
  have := key l ([], false) 0 (by simp)
  simpa [insTo] using this

def addE (l : List (List Cell)) (t : List Cell) : Int := if factT t = true then (if t ∈ l then 0 else if 512 ≤ l.length then 2 else 0) else 120
def addO (l : List (List Cell)) (t : List Cell) : List (List Cell) := if factT t = true then (if t ∈ l then l else if 512 ≤ l.length then [] else insT t l) else []


end
section
open Go Go.RowKit

def varI (c : Cell) : Cell := if c.kind = 1 then ⟨2, ⟨#[]⟩, c.n⟩ else c
def varM (o : List Cell) (k : Nat) : List Cell := (o.take k).map varI ++ o.drop k
theorem varM_len (o : List Cell) (k : Nat) : (varM o k).length = o.length := by unfold varM; simp; omega
theorem varM_at {o : List Cell} {k : Nat} (hk : k < o.length) : (varM o k)[k]? = some o[k] := by
  unfold varM
  rw [List.getElem?_append_right (by simp; omega), List.getElem?_drop]
  simp only [List.length_map, List.length_take]
  rw [show k + (k - min k o.length) = k by omega, List.getElem?_eq_getElem hk]
theorem varM_step {o : List Cell} {k : Nat} (hk : k < o.length) : varM o (k + 1) = (varM o k).set k (varI o[k]) := by
  have hl : ((o.take k).map varI).length = k := by simp; omega
  unfold varM
  rw [List.take_succ_eq_append_getElem hk, List.map_append, List.append_assoc]
  conv => rhs; rw [List.drop_eq_getElem_cons hk]
  rw [List.set_append_right _ _ (by omega), hl, Nat.sub_self]
  rfl
theorem varM_same {o : List Cell} {k : Nat} (hk : k < o.length) (h : varI o[k] = o[k]) : varM o (k + 1) = varM o k := by
  rw [varM_step hk, h]
  apply List.ext_getElem?
  intro j
  rw [List.getElem?_set]
  by_cases hkj : k = j
  · subst hkj
    rw [if_pos rfl, if_pos (by rw [varM_len]; exact hk), varM_at hk]
  · rw [if_neg hkj]
theorem varM_all (o : List Cell) : varM o o.length = o.map varI := by unfold varM; simp
def factM (t : List Cell) : List Cell := if 12 < depthT ((atomT 12 t).map varI) then [aC] else (atomT 12 t).map varI

theorem varI_ok {c : Cell} (h : cellOK c = true) : cellOK (varI c) = true ∧ arity (varI c) = arity c := by
  unfold varI
  split
  · rename_i h1
    unfold cellOK at h
    rw [if_pos h1] at h
    simp only [Bool.and_eq_true, decide_eq_true_eq] at h
    refine ⟨?_, ?_⟩
    · unfold cellOK
      rw [if_neg (by simp), if_pos rfl]
      simp only [Bool.and_eq_true, decide_eq_true_eq]
      exact ⟨⟨rfl, by omega⟩, by omega⟩
    · unfold arity
      rw [if_neg (by simp), if_neg (by omega)]
  · exact ⟨h, rfl⟩
theorem endC_map : ∀ {l : List Cell} {k m : Nat}, endC k l = some m → endC k (l.map varI) = some m
  | l, 0, m, h => by rw [endC_zero] at *; exact h
  | [], k + 1, m, h => by simp [endC] at h
  | c :: l, k + 1, m, h => by
    rw [endC_succ] at h
    split at h
    · rename_i hc
      obtain ⟨m', hm', rfl⟩ := Option.map_eq_some_iff.1 h
      rw [List.map_cons, endC_succ, if_pos (varI_ok hc).1, (varI_ok hc).2, endC_map hm']
      rfl
    · simp at h
theorem right_map {t : List Cell} (h : RightT t) : RightT (t.map varI) := ⟨by rw [List.length_map]; exact h.1, by rw [List.length_map]; exact endC_map h.2⟩
theorem ground_map (t : List Cell) : groundT (t.map varI) = true := by
  unfold groundT
  rw [List.all_map, List.all_eq_true]
  intro c _
  show (!decide ((varI c).kind = 1)) = true
  unfold varI
  split
  · simp
  · rename_i h; simp [h]
theorem fact_aC : factT [aC] = true := by decide +kernel
theorem factM_fact (t : List Cell) : factT (factM t) = true ∧ (factM t).length ≤ 12 := by
  obtain ⟨h1, h2, h3⟩ := atomT_right (most := 12) t (by omega) (by omega)
  unfold factM
  split
  · exact ⟨fact_aC, by simp⟩
  · rename_i hd
    refine ⟨?_, by rw [List.length_map]; exact h2⟩
    unfold factT
    have hr : rightT ((atomT 12 t).map varI) = true := decide_eq_true (right_map h1)
    have hfu : isFun ((atomT 12 t).map varI) = true := by
      cases ht : atomT 12 t with
      | nil => rw [ht] at h3; simp [isFun] at h3
      | cons c l =>
        rw [ht] at h3
        simp only [isFun, decide_eq_true_eq] at h3
        show decide ((varI c).kind = 3) = true
        unfold varI
        rw [if_neg (by omega)]
        simp [h3]
    rw [hr, hfu, ground_map]
    simp; omega
theorem factT_parts {t : List Cell} (h : factT t = true) : RightT t ∧ isFun t = true ∧ groundT t = true ∧ depthT t ≤ 12 := by
  unfold factT at h
  simp only [Bool.and_eq_true, decide_eq_true_eq] at h
  exact ⟨of_decide_eq_true h.1.1.1, h.1.1.2, h.1.2, h.2⟩
theorem factM_self {t : List Cell} (h : factT t = true) (hl : t.length ≤ 12) : factM t = t := by
  obtain ⟨h1, h2, h3, h4⟩ := factT_parts h
  have hm : madeT 12 t = t := madeT_self h1 hl
  have ha : atomT 12 t = t := by unfold atomT; rw [hm, if_pos h2]
  have hv : t.map varI = t := by
    rw [List.map_congr_left (g := id), List.map_id]
    intro c hc
    unfold groundT at h3
    rw [List.all_eq_true] at h3
    have := h3 c hc
    unfold varI
    rw [if_neg (by simpa using this)]; rfl
  unfold factM
  rw [ha, hv, if_neg (by omega)]

theorem Own.cellS {S T : Nat → Prop} {base : Nat} {e : TypeId} {w : World} {v : Value} {xs : List Cell} (h : Own cellE S base e w v xs) : Own cellE T base e w v xs := by
  obtain ⟨vs, h1, h2⟩ := h
  exact ⟨vs, h1, fun k x hx => h2 k x hx⟩


end
end Go.Proofs.YtckkjjiaecnciaaGreat
