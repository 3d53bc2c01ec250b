/-
  The program's terms: names by their runes; cells.
  The program's terms: which cells may be.
  The program's terms: where they end; right ones.
  The program's terms: ground ones, parts, depth.
-/
import Derived.Test.YtckkjjiaecnciaaGreatTmE
import Derived.Test.YtckkjjiaecnciaaGreatRun
import Derived.Laws.IdiomStrings
import Derived.Laws.RangeAny
import Derived.Laws.RangeString
import Derived.Laws.EntriesVeiled
namespace Go.Proofs.YtckkjjiaecnciaaGreat
section
open Go Go.RowKit

/-- A number that tells whether something is there. -/
def HasV (b : Bool) (w : World) (e : Ending) (w' : World) : Prop := ∃ r : Int, e = .returned (.int .i64 r) ∧ decide (0 ≤ r) = b ∧ Below w.heap.size w w'

/-! ### Runes -/
def oddR (r : Int) : Bool := decide (r < 32) || decide (126 < r) || decide (r = 39)
def runeE : Elt Int where
  sz := 1
  pos := by decide
  R := fun _ _ n cs => cs = [.int .i32 n] ∧ 0 ≤ n ∧ n ≤ 2147483647
  len := by rintro _ _ _ _ ⟨rfl, _⟩; rfl
  one := by rintro _ _ _ _ ⟨rfl, _⟩ u hu; simp at hu; subst hu; rfl
  mono := fun h _ _ => h
theorem SeqAt.rune {S : Nat → Prop} {w : World} {ao : Option Addr} {xs : List Int} (h : SeqAt runeE S w ao xs) {k : Nat} (hk : k < xs.length) :
    ∃ b off, ao = some ⟨b, off, none⟩ ∧ S b ∧ b < w.heap.size ∧ w.cell? ⟨b, off + k, none⟩ = some (.int .i32 xs[k]) ∧ 0 ≤ xs[k] ∧ xs[k] ≤ 2147483647 := by
  obtain ⟨b, off, cs, h1, h2, h3, ⟨rfl, h4⟩, h5⟩ := h k _ (List.getElem?_eq_getElem hk)
  have := h5 0 (by decide)
  simp only [runeE, Nat.mul_one, Nat.add_zero] at this
  exact ⟨b, off, h1, h2, h3, this, h4⟩
def runesG (s : ByteArray) : Nat → Nat → List Int
  | 0, _ => []
  | f + 1, i => if i < s.size then ((Utf8.decode s i).1 : Int) :: runesG s f (i + (Utf8.decode s i).2) else []
theorem runesFrom_eq (s : ByteArray) : ∀ (f i : Nat) (acc : Array Value), Conv.runesFrom s f i acc = acc ++ ((runesG s f i).map (Value.int .i32)).toArray
  | 0, _, acc => by simp [Conv.runesFrom, runesG]
  | f + 1, i, acc => by
    unfold Conv.runesFrom runesG
    split
    · simp only
      rw [runesFrom_eq s f]
      simp
    · simp
def runesL (s : ByteArray) : List Int := runesG s s.size 0
theorem runesG_len (s : ByteArray) : ∀ (f i : Nat), (runesG s f i).length ≤ f
  | 0, _ => by simp [runesG]
  | f + 1, i => by
    unfold runesG
    split
    · have := runesG_len s f (i + (Utf8.decode s i).2)
      simp only [List.length_cons]; omega
    · simp
theorem runesG_bnd (s : ByteArray) : ∀ (f i : Nat), ∀ r ∈ runesG s f i, 0 ≤ r ∧ r ≤ 2147483647
  | 0, _, r, h => by simp [runesG] at h
  | f + 1, i, r, h => by
    unfold runesG at h
    split at h
    · rcases List.mem_cons.1 h with rfl | h
      · have := decode_le s i
        omega
      · exact runesG_bnd s f _ r h
    · simp at h
theorem runes_any (s : ByteArray) : ∀ (f i : Nat), s.size ≤ i + f → (runesG s f i).any oddR = (s.toList.drop i).any fun b => oddB b
  | 0, i, h => by
    have hl : s.toList.length = s.size := by rw [ByteArray.toList_eq]; simp
    rw [List.drop_eq_nil_of_le (by omega)]; rfl
  | f + 1, i, h => by
    have hl : s.toList.length = s.size := by rw [ByteArray.toList_eq]; simp
    unfold runesG
    by_cases hi : i < s.size
    · rw [if_pos hi, List.drop_eq_getElem_cons (by omega), List.any_cons, List.any_cons]
      have hb : s.toList[i]'(by omega) = s[i] := by simp only [ByteArray.toList_eq]; rfl
      rw [hb]
      by_cases ha : (s[i]).toNat < 128
      · rw [decode_ascii s i hi ha]
        simp only
        rw [runes_any s f (i + 1) (by omega)]
        congr 1
        unfold oddR oddB
        congr 1
        · congr 1 <;> (apply decide_eq_decide.2; omega)
        · apply decide_eq_decide.2; omega
      · have hd := decode_high s i hi (by omega)
        have e1 : oddR ((Utf8.decode s i).1 : Int) = true := by
          unfold oddR
          rw [decide_eq_true (show (126 : Int) < ((Utf8.decode s i).1 : Int) by omega)]; simp
        have e2 : oddB s[i] = true := by
          unfold oddB
          rw [decide_eq_true (show 126 < (s[i]).toNat by omega)]; simp
        rw [e1, e2]; rfl
    · rw [if_neg hi, List.drop_eq_nil_of_le (by omega)]; rfl
theorem nameOK_runes (s : ByteArray) : nameOK s = (decide (1 ≤ s.size) && decide (s.size ≤ 12) && !(runesL s).any oddR) := by
  unfold nameOK runesL
  rw [runes_any s s.size 0 (by omega), List.drop_zero]
  congr 1
  rw [Bool.eq_iff_iff]
  simp

theorem odd_spec {w : World} {r : Int} : Calls Tryz.prog 126 #[.int .i32 r] w (RetV (.bool (oddR r)) w) := by
  have ho := Lib.hid (show oddR r = (decide (r < 32) || decide (126 < r) || (r == 39)) by unfold oddR; congr 1)
  go_enter Tryz.func126, Tryz.ntmps126
  go_wp2_with fail
  all_goals
    go_ret
    refine ⟨ret_bool ?_, Below.refl _ _⟩
    rw [ho.out]
    try (simp_all <;> omega)

set_option maxHeartbeats 1600000 in
set_option maxRecDepth 100000 in
theorem rune_index {T : Nat → Prop} {w : World} {v : Value} {l : List (Int)} (hl : Seq runeE T w v l) :
    Calls Tryz.prog 134 #[v, .func (.func 126) #[] #[]] w (HasV (l.any oddR) w) := by
  obtain ⟨P, hP⟩ : ∃ P, P = (oddR : Int → Bool) := ⟨_, rfl⟩
  have HP := Lib.hid hP
  obtain ⟨ao, cap, rfl, h1, h2, h3, h4, h5⟩ := hl
  rw [← hP]
  clear hP
  go_enter Tryz.func134, Tryz.ntmps134
  go_wp2_with fail
  go_loopw [8] (fun i wr => ∃ k : Nat, k ≤ l.length ∧ i = .int .i64 k ∧ Hid (∀ x ∈ l.take k, P x = false) ∧ Below w.heap.size w wr) (fun i _ => l.length - (intOf i).toNat)
  case atStart => exact ⟨0, Nat.zero_le _, rfl, Lib.hid (by simp), Seq.way⟩
  case round =>
    obtain ⟨k, hk, rfl, hno, hbr⟩ := hrel
    have hzr := hbr.size
    by_cases hlt : k < l.length
    · obtain ⟨b, off, rfl, -, -, c0, -⟩ := (h5.below hbr fun _ _ h => h).rune hlt
      have hmem := Lib.hid (List.getElem_mem hlt)
      have hxs := Lib.hid (show P l[k] = false → ∀ y ∈ l.take (k + 1), P y = false from fun hp y hy => by
        rw [List.take_succ_eq_append_getElem hlt] at hy
        rcases List.mem_append.1 hy with h | h
        · exact hno.out y h
        · rw [List.mem_singleton] at h; rw [h]; exact hp)
      have hxa := Lib.hid (show P l[k] = true → l.any P = true from fun hp => List.any_eq_true.2 ⟨l[k], List.getElem_mem hlt, hp⟩)
      obtain ⟨x, hxe⟩ : ∃ x, x = l[k] := ⟨_, rfl⟩
      rw [← hxe] at hxs hxa hmem c0
      clear hxe h5 hno
      have hkl : (k : Int) < (l.length : Int) := by omega
      have hk0 : (0 : Int) ≤ (k : Int) := by omega
      go_wp2_with fail
      refine (odd_spec).mono ?_
      rw [show oddR x = P x by rw [← HP.out]]
      rintro e w' ⟨rfl, hb'⟩
      have hbw := below_step hb' hbr
      cases hp : P x
      · have hst := Lib.hid (hxs.out hp)
        clear hp
        go_wp2_with fail
        go_roundw
        case rel => exact ⟨k + 1, hlt, by go_num, hst, hbw⟩
        case measure => simp [intOf]; omega
      · have hst := Lib.hid (hxa.out hp)
        clear hp
        go_wp2_with fail
        go_ret
        exact ⟨_, rfl, by rw [hst.out]; simp, hbw⟩
    · obtain rfl : k = l.length := by omega
      have hst := Lib.hid (show l.any P = false by
        rw [List.any_eq_false]; intro x hx; rw [hno.out x (by rw [List.take_length]; exact hx)]; simp)
      clear hno
      go_wp2_with fail
      go_ret
      exact ⟨_, rfl, by rw [hst.out]; rfl, hbr⟩

theorem rune_has {T : Nat → Prop} {w : World} {v : Value} {l : List (Int)} (hl : Seq runeE T w v l) :
    Calls Tryz.prog 127 #[v, .func (.func 126) #[] #[]] w (RetV (.bool (l.any oddR)) w) := by
  have hl' := Lib.hid hl
  obtain ⟨ao, cap, rfl, -⟩ := hl
  go_enter Tryz.func127, Tryz.ntmps127
  go_wp2_with fail
  refine (rune_index hl'.out).mono ?_
  rintro e w' ⟨r, rfl, hr, hb⟩
  have hr := Lib.hid hr
  go_wp2_with fail
  all_goals go_ret
  all_goals exact ⟨ret_bool (by rw [← hr.out]), hb⟩
end
section
open Go Go.RowKit

theorem inI_spec {w : World} {n a b : Int} : Calls Tryz.prog 79 #[.int .i64 n, .int .i64 a, .int .i64 b] w (PureV (.bool (decide (a ≤ n) && decide (n ≤ b))) w) := by
  go_enter Tryz.func79, Tryz.ntmps79
  by_cases h1 : a ≤ n
  · by_cases h2 : n ≤ b
    · go_wp2_with fail
      go_ret
      exact ⟨ret_bool (by simp [h1, h2]), rfl⟩
    · go_wp2_with fail
      go_ret
      exact ⟨ret_bool (by simp; omega), rfl⟩
  · go_wp2_with fail
    go_ret
    exact ⟨ret_bool (by simp; omega), rfl⟩

theorem runes_row {w : World} {s : ByteArray} {cap B : Nat} (hB : B = w.heap.size) (h12 : s.size ≤ 12) (hcap : (Conv.runesFrom s s.size 0 #[]).size ≤ cap) (hm : cap ≤ maxLen) {e : TypeId} :
    Seq runeE (fun _ => True) (w.alloc (.cells (Conv.runesFrom s s.size 0 #[] ++ Array.replicate (cap - (Conv.runesFrom s s.size 0 #[]).size) (Value.int .i32 0)) e)) (.slice (some ⟨B, 0, none⟩) (Conv.runesFrom s s.size 0 #[]).size cap) (runesL s) := by
  have hl := runesG_len s s.size 0
  have hsz : (Conv.runesFrom s s.size 0 #[]).size = (runesL s).length := by rw [runesFrom_eq]; simp [runesL]
  have hll : (runesL s).length ≤ 12 := by unfold runesL; omega
  have hR : Row e (w.alloc (.cells (Conv.runesFrom s s.size 0 #[] ++ Array.replicate (cap - (Conv.runesFrom s s.size 0 #[]).size) (Value.int .i32 0)) e)) B (((runesL s).map (Value.int .i32)) ++ List.replicate (cap - (runesL s).length) (Value.int .i32 0)) := by
    have h0 := Row.new w (((runesL s).map (Value.int .i32)) ++ List.replicate (cap - (runesL s).length) (Value.int .i32 0)) e hB
    have he : (((runesL s).map (Value.int .i32)) ++ List.replicate (cap - (runesL s).length) (Value.int .i32 0)).toArray = Conv.runesFrom s s.size 0 #[] ++ Array.replicate (cap - (Conv.runesFrom s s.size 0 #[]).size) (Value.int .i32 0) := by
      rw [hsz, runesFrom_eq]
      simp [runesL]
    rw [he] at h0
    exact h0
  refine Row.seq (E := runeE) hR hsz hcap hm (by omega) trivial ?_
  intro k x hk
  have hkl := (List.getElem?_eq_some_iff.1 hk).1
  refine ⟨[.int .i32 x], ⟨rfl, runesG_bnd s s.size 0 x (List.mem_of_getElem? hk)⟩, fun j hj => ?_⟩
  have : j < 1 := hj
  obtain rfl : j = 0 := by omega
  show _[k * 1 + 0]? = _
  rw [Nat.mul_one, Nat.add_zero, List.getElem?_append_left (by simpa using hkl), List.getElem?_map, hk]
  rfl

set_option maxHeartbeats 1600000 in
set_option maxRecDepth 100000 in
theorem rightC_spec {w : World} {c : Cell} (hs : c.name.size ≤ 140737488355328) :
    Calls Tryz.prog 107 #[cellV c] w (RetV (.bool (cellOK c)) w) := by
  have hem : decide (c.name.size = 0) = decide (c.name.toList = []) := by
    rw [Bool.eq_iff_iff, decide_eq_true_iff, decide_eq_true_iff, ByteArray.toList_eq]
    exact ⟨fun h => List.eq_nil_of_length_eq_zero (by simpa using h), fun h => by simpa using congrArg List.length h⟩
  have hok : cellOK c = (if c.kind = 1 then decide (c.name.toList = []) && decide (0 ≤ c.n) && decide (c.n ≤ 999)
    else if c.kind = 2 then decide (c.name.toList = []) && decide (-2147483647 ≤ c.n) && decide (c.n ≤ 2147483647)
    else if c.kind = 3 then nameOK c.name && decide (0 ≤ c.n) && decide (c.n ≤ 6)
    else false) := by rw [← hem]; rfl
  rw [nameOK_runes] at hok
  have Hok := Lib.hid hok
  clear hok hem
  unfold cellV
  go_enter Tryz.func107, Tryz.ntmps107
  by_cases h1 : c.kind = 1
  · by_cases hn : c.name.toList = []
    · go_wp2_with fail
      refine (inI_spec).mono ?_
      rintro e _ ⟨rfl, rfl⟩
      go_wp2_with fail
      all_goals
        go_ret
        refine ⟨ret_bool ?_, Seq.way⟩
        rw [Hok.out]
        simp_all
    · go_wp2_with fail
      go_ret
      refine ⟨ret_bool ?_, Seq.way⟩
      rw [Hok.out]
      simp_all
  · by_cases h2 : c.kind = 2
    · by_cases hn : c.name.toList = []
      · go_wp2_with fail
        refine (inI_spec).mono ?_
        rintro e _ ⟨rfl, rfl⟩
        go_wp2_with fail
        all_goals
          go_ret
          refine ⟨ret_bool ?_, Seq.way⟩
          rw [Hok.out]
          simp_all
      · go_wp2_with fail
        go_ret
        refine ⟨ret_bool ?_, Seq.way⟩
        rw [Hok.out]
        simp_all
    · by_cases h3 : c.kind = 3
      · have Hok3 := Lib.hid (show cellOK c = (decide (1 ≤ c.name.size) && decide (c.name.size ≤ 12) && !(runesL c.name).any oddR && decide (0 ≤ c.n) && decide (c.n ≤ 6)) by
          rw [Hok.out, if_neg h1, if_neg h2, if_pos h3])
        go_wp2_with fail
        refine (inI_spec).mono ?_
        rintro e _ ⟨rfl, rfl⟩
        by_cases hn : 0 ≤ c.n ∧ c.n ≤ 6
        · have hd : (decide (0 ≤ c.n) && decide (c.n ≤ 6)) = true := by simp [hn]
          rw [hd]
          go_wp2_with fail
          refine (inI_spec).mono ?_
          rintro e _ ⟨rfl, rfl⟩
          by_cases hz : 1 ≤ c.name.size ∧ c.name.size ≤ 12
          · have hd2 : (decide ((1 : Int) ≤ (c.name.size : Int)) && decide ((c.name.size : Int) ≤ 12)) = true := by simp; omega
            rw [hd2]
            have hrl : (Conv.runesFrom c.name c.name.size 0 #[]).size ≤ c.name.size := by have := size_runesFrom c.name c.name.size 0 #[]; simpa using this
            have hconv : ∀ W, Sem.run Tryz.prog (convert 9 135 (.string c.name)) W = .ok (.slice (some ⟨W.heap.size, 0, none⟩) (Conv.runesFrom c.name c.name.size 0 #[]).size (grownCap W (Conv.runesFrom c.name c.name.size 0 #[]).size 0 21))
                (W.drew.alloc (.cells (Conv.runesFrom c.name c.name.size 0 #[] ++ Array.replicate (grownCap W (Conv.runesFrom c.name c.name.size 0 #[]).size 0 21 - (Conv.runesFrom c.name c.name.size 0 #[]).size) (Value.int .i32 0)) 21)) := fun W =>
              run_runes_of_string W _ _ 21 c.name (by kernel_rfl) (by kernel_rfl) (by kernel_rfl) (by omega)
            have hrow := Lib.hid (runes_row (w := w.alloc (.cells #[.int .i64 3, .string c.name, .int .i64 c.n] 51)) (s := c.name) (B := w.heap.size + 1) (cap := grownCap (w.alloc (.cells #[.int .i64 3, .string c.name, .int .i64 c.n] 51)) (Conv.runesFrom c.name c.name.size 0 #[]).size 0 21) (by simp) hz.2 (grownCap_ge _ _ _ _) (grownCap_le_maxLen _ _ _ _ (by simp only [maxLen]; omega)) (e := 21))
            go_wp2_with fail
            refine (rune_has (hrow.out.at Seq.way)).mono ?_
            rintro e w2 ⟨rfl, hb2⟩
            have hb2' : Below w.heap.size w w2 := below_step hb2 Seq.way
            cases hx : (runesL c.name).any oddR
            all_goals
              go_wp2_with fail
              go_ret
              refine ⟨ret_bool ?_, hb2'⟩
              rw [Hok3.out, hx]
              simp [hn, hz]
          · have hd2 : (decide ((1 : Int) ≤ (c.name.size : Int)) && decide ((c.name.size : Int) ≤ 12)) = false := by
              rw [Bool.eq_false_iff]; simp; omega
            rw [hd2]
            go_wp2_with fail
            go_ret
            refine ⟨ret_bool ?_, Seq.way⟩
            rw [Hok3.out]
            simp; omega
        · have hd : (decide (0 ≤ c.n) && decide (c.n ≤ 6)) = false := by
            rw [Bool.eq_false_iff]; simp; omega
          rw [hd]
          go_wp2_with fail
          go_ret
          refine ⟨ret_bool ?_, Seq.way⟩
          rw [Hok3.out]
          simp; omega
      · go_wp2_with fail
        all_goals
          go_ret
          refine ⟨ret_bool ?_, Seq.way⟩
          rw [Hok.out]
          simp_all
end
section
open Go Go.RowKit

def optN : Option Nat → Int
  | none => 0
  | some m => m
def endN (t : List Cell) (p : Nat) : Int := optN (endO t p)
theorem endN_zero {t : List Cell} {p : Nat} : endN t p = 0 ↔ endO t p = none := by
  unfold endN endO
  cases h : endC 1 (t.drop p) with
  | none => simp [optN]
  | some m => have := endC_le h; simp [optN]; omega
theorem endO_here {t : List Cell} {p : Nat} (hp : p < t.length) : endO t p = if cellOK t[p] = true then (endC (arity t[p]) (t.drop (p + 1))).map (p + 1 + ·) else none := by
  unfold endO
  rw [endC_step hp (Nat.le_refl _), Nat.sub_self, Nat.zero_add]
theorem endC_more {t : List Cell} {n p : Nat} : (endC (n + 1) (t.drop p)).map (p + ·) = (endO t p).bind fun q => (endC n (t.drop q)).map (q + ·) := by
  unfold endO
  rw [Nat.add_comm n 1, endC_add]
  cases endC 1 (t.drop p) with
  | none => rfl
  | some m =>
    simp only [Option.bind_some, Option.map_some, List.drop_drop, Option.map_map]
    congr 1
    funext x
    show p + (m + x) = p + m + x
    omega

/-- The closure 'visit', over a box with the term and a box with itself. -/
def visitV (Bt Bv : Nat) : Value := .func (.func 106) #[] #[.pointer (some ⟨Bt, 0, none⟩), .pointer (some ⟨Bv, 0, none⟩)]

set_option maxHeartbeats 4000000 in
set_option maxRecDepth 100000 in
theorem visit_spec : ∀ (n : Nat) {S : Nat → Prop} {w : World} {v : Value} {t : List Cell} {p Bt Bv : Nat} (_ : t.length ≤ p + n) (_ : Seq cellE S w v t) (_ : Bt < w.heap.size) (_ : Bv < w.heap.size)
    (_ : w.cell? ⟨Bt, 0, none⟩ = some v) (_ : w.cell? ⟨Bv, 0, none⟩ = some (visitV Bt Bv)),
    Calls Tryz.prog 106 #[.int .i64 p, .pointer (some ⟨Bt, 0, none⟩), .pointer (some ⟨Bv, 0, none⟩)] w (RetV (.int .i64 (endN t p)) w) := by
  intro n
  induction n with
  | zero =>
    intro S w v t p Bt Bv hn ht lt lv ct cv
    have hz := Lib.hid (show endN t p = 0 by rw [endN_zero]; unfold endO; rw [List.drop_eq_nil_of_le (by omega)]; rfl)
    obtain ⟨ao, cap, rfl, -⟩ := ht
    have hle : (t.length : Int) ≤ (p : Int) := by omega
    go_enter Tryz.func106, Tryz.ntmps106
    go_wp2_with fail
    go_ret
    exact ⟨ret_int hz.out.symm, Below.refl _ _⟩
  | succ n ih =>
    intro S w v t p Bt Bv hn ht lt lv ct cv
    have Ht := Lib.hid ht
    obtain ⟨ao, cap, rfl, -, -, hal, -, h5⟩ := ht
    by_cases hp : p < t.length
    · obtain ⟨b, off, rfl, -, hb, c0, c1, c2, ok0, ok2, okn⟩ := h5.cell hp
      have hst := Lib.hid (endO_here hp)
      obtain ⟨c, hc⟩ : ∃ c, c = t[p] := ⟨_, rfl⟩
      rw [← hc] at c0 c1 c2 ok0 ok2 okn hst
      clear hc h5
      have hpl : (p : Int) < (t.length : Int) := by omega
      have hp0 : (0 : Int) ≤ (p : Int) := by omega
      have hpd : decide (t.length ≤ p) = false := decide_eq_false (by omega)
      have Cv := Lib.hid cv
      clear cv
      go_enter Tryz.func106, Tryz.ntmps106
      go_wp2_with fail
      refine (rightC_spec (c := c) okn).mono ?_
      rintro e w1 ⟨rfl, hb1⟩
      have ct1 : w1.cell? ⟨Bt, 0, none⟩ = _ := (hb1.cell (p := ⟨Bt, 0, none⟩) lt).trans ct
      have e0 : w1.cell? ⟨b, off + p * 3, none⟩ = _ := (hb1.cell (p := ⟨b, off + p * 3, none⟩) hb).trans c0
      have e2 : w1.cell? ⟨b, off + p * 3 + 2, none⟩ = _ := (hb1.cell (p := ⟨b, off + p * 3 + 2, none⟩) hb).trans c2
      have hz1 := hb1.size
      have lt1 : Bt < w1.heap.size := by omega
      have lb1 : b < w1.heap.size := by omega
      clear c0 c1 c2 ct
      cases hok : cellOK c
      · have hz := Lib.hid (show endN t p = 0 by rw [endN_zero, hst.out, hok]; rfl)
        go_wp2_with fail
        go_ret
        exact ⟨ret_int hz.out.symm, hb1⟩
      · have hsk := Lib.hid (show endO t p = (endC (arity c) (t.drop (p + 1))).map (p + 1 + ·) by rw [hst.out, hok]; rfl)
        have har := arity_le hok
        clear hst
        by_cases h3 : c.kind = 3
        · have hcn := cellOK_fun hok h3
          obtain ⟨a, ha⟩ : ∃ a : Nat, c.n = (a : Int) := ⟨c.n.toNat, by omega⟩
          have har2 : arity c = a := by unfold arity; rw [if_pos h3]; omega
          rw [har2] at hsk har
          rw [ha] at e2
          rw [h3] at e0
          clear h3 hcn har2 ha hok
          go_wp2_with fail
          go_loopw [5, 32] (fun nx j wr => ∃ (k q : Nat), k ≤ a ∧ j = .int .i64 k ∧ nx = .int .i64 q ∧ p < q ∧ q ≤ t.length ∧ Hid (endO t p = (endC (a - k) (t.drop q)).map (q + ·)) ∧ Below w.heap.size w wr) (fun _ j _ => a - (intOf j).toNat)
          case atStart => exact ⟨0, p + 1, Nat.zero_le _, rfl, by go_num, by omega, by omega, hsk, hb1⟩
          case round =>
            obtain ⟨k, q, hk, rfl, rfl, hpq, hql, hinv, hbr⟩ := hrel
            have hzr := hbr.size
            have cvr : wr.cell? ⟨Bv, 0, none⟩ = some (visitV Bt Bv) := (hbr.cell (p := ⟨Bv, 0, none⟩) lv).trans Cv.out
            have Ctr := Lib.hid (show wr.cell? ⟨Bt, 0, none⟩ = some (.slice (some ⟨b, off, none⟩) t.length cap) from by
              have := hb1.cell (p := ⟨Bt, 0, none⟩) lt
              exact (hbr.cell (p := ⟨Bt, 0, none⟩) lt).trans (this.symm.trans ct1))
            have lvr : Bv < wr.heap.size := by omega
            by_cases hka : k < a
            · have hkI : (k : Int) < (a : Int) := by omega
              have hm := Lib.hid (show endO t p = (endO t q).bind fun r => (endC (a - (k + 1)) (t.drop r)).map (r + ·) by
                rw [hinv.out, show a - k = (a - (k + 1)) + 1 by omega, endC_more])
              have Cvr := Lib.hid cvr
              unfold visitV at cvr
              go_wp2_with fail
              refine (ih (p := q) (by omega) (Ht.out.at hbr) (by omega) lvr Ctr.out Cvr.out).mono ?_
              rintro e w2 ⟨rfl, hb2⟩
              have hb2' := below_step hb2 hbr
              cases hE : endO t q with
              | none =>
                have hz : endN t q = 0 := endN_zero.2 hE
                have hz2 := Lib.hid (show endN t p = 0 by rw [endN_zero, hm.out, hE]; rfl)
                rw [hz]
                clear hz
                go_wp2_with fail
                go_ret
                exact ⟨ret_int hz2.out.symm, hb2'⟩
              | some r =>
                have hz : endN t q = (r : Int) := by unfold endN; rw [hE]; rfl
                have hr : q < r ∧ r ≤ t.length := by
                  unfold endO at hE
                  obtain ⟨m, hm1, rfl⟩ := Option.map_eq_some_iff.1 hE
                  have := endC_le hm1
                  rw [List.length_drop] at this
                  omega
                have hm2 := Lib.hid (show endO t p = (endC (a - (k + 1)) (t.drop r)).map (r + ·) by rw [hm.out, hE]; rfl)
                rw [hz]
                have hrz : ¬ (r : Int) = 0 := by omega
                clear hz hE hm
                go_wp2_with fail
                go_roundw
                case rel => exact ⟨k + 1, r, hka, by go_num, rfl, by omega, hr.2, hm2, hb2'⟩
                case measure => simp [intOf]; omega
            · have hz := Lib.hid (show endN t p = (q : Int) by unfold endN; rw [hinv.out, show a - k = 0 by omega, endC_zero]; rfl)
              obtain rfl : k = a := by omega
              go_wp2_with fail
              go_ret
              exact ⟨ret_int hz.out.symm, hbr⟩
        · have h3' : (c.kind != 3) = true := by simpa using h3
          have hz := Lib.hid (show endN t p = (p : Int) + 1 by unfold endN; rw [hsk.out]; unfold arity; rw [if_neg h3, endC_zero]; rfl)
          go_wp2_with fail
          go_ret
          exact ⟨ret_int (by rw [hz.out]), hb1⟩
    · have hz := Lib.hid (show endN t p = 0 by rw [endN_zero]; unfold endO; rw [List.drop_eq_nil_of_le (by omega)]; rfl)
      have hle : (t.length : Int) ≤ (p : Int) := by omega
      go_enter Tryz.func106, Tryz.ntmps106
      go_wp2_with fail
      go_ret
      exact ⟨ret_int hz.out.symm, Below.refl _ _⟩

theorem endP_spec {S : Nat → Prop} {w : World} {v : Value} {t : List Cell} {p : Nat} (ht : Seq cellE S w v t) (hp : p ≤ 1000000000000) :
    Calls Tryz.prog 80 #[v, .int .i64 p] w (RetV (.int .i64 (endN t p)) w) := by
  have Ht := Lib.hid ht.bnd
  obtain ⟨ao, cap, rfl, -⟩ := ht
  go_enter Tryz.func80, Tryz.ntmps80
  go_wp2_with fail
  refine (visit_spec t.length (p := p) (v := .slice ao t.length cap) (by omega) (Ht.out.at Seq.way) (by simp; omega) (by simp) (by go_simp) (by unfold visitV; go_simp)).mono ?_
  rintro e w1 ⟨rfl, hb1⟩
  have hb1' : Below w.heap.size w w1 := below_step hb1 Seq.way
  go_wp2_with fail
  go_ret
  exact ⟨rfl, hb1'⟩

theorem RightP_spec {S : Nat → Prop} {w : World} {v : Value} {t : List Cell} (ht : Seq cellE S w v t) :
    Calls Tryz.prog 51 #[v] w (RetV (.bool (rightT t)) w) := by
  have Ht := Lib.hid ht
  have hr := Lib.hid (rightT_iff t)
  obtain ⟨ao, cap, rfl, -⟩ := ht
  go_enter Tryz.func51, Tryz.ntmps51
  go_wp2_with fail
  refine (inI_spec).mono ?_
  rintro e _ ⟨rfl, rfl⟩
  by_cases hl : 1 ≤ t.length ∧ t.length ≤ 200
  · have hd : (decide ((1 : Int) ≤ (t.length : Int)) && decide ((t.length : Int) ≤ 200)) = true := by simp; omega
    rw [hd]
    have hrr := Lib.hid (show rightT t = decide (endN t 0 = (t.length : Int)) by
      rw [hr.out, decide_eq_true hl.1, decide_eq_true hl.2, Bool.true_and, Bool.true_and]
      apply decide_eq_decide.2
      unfold endZ endN
      cases h : endO t 0 with
      | none => simp [optZ, optN]; omega
      | some m => rfl)
    go_wp2_with fail
    refine (endP_spec (p := 0) Ht.out (by omega)).mono ?_
    rintro e w1 ⟨rfl, hb1⟩
    go_wp2_with fail
    go_ret
    refine ⟨ret_bool ?_, hb1⟩
    rw [hrr.out, Bool.eq_iff_iff]
    simp
  · have hd : (decide ((1 : Int) ≤ (t.length : Int)) && decide ((t.length : Int) ≤ 200)) = false := by
      rw [Bool.eq_false_iff]; simp; omega
    rw [hd]
    go_wp2_with fail
    go_ret
    refine ⟨ret_bool ?_, Below.refl _ _⟩
    rw [hr.out]
    have : (decide (1 ≤ t.length) && decide (t.length ≤ 200)) = false := by rw [Bool.eq_false_iff]; simp; omega
    rw [this]; rfl
end
section
open Go Go.RowKit

def isVarC (c : Cell) : Bool := decide (c.kind = 1)
theorem isVar_spec {w : World} {c : Cell} : Calls Tryz.prog 82 #[cellV c] w (RetV (.bool (isVarC c)) w) := by
  have hv := Lib.hid (show isVarC c = decide (c.kind = 1) from rfl)
  unfold cellV
  go_enter Tryz.func82, Tryz.ntmps82
  go_wp2_with fail
  go_ret
  exact ⟨ret_bool (by rw [hv.out, Bool.eq_iff_iff]; simp), Seq.way⟩

set_option maxHeartbeats 1600000 in
set_option maxRecDepth 100000 in
theorem cellVar_index {T : Nat → Prop} {w : World} {v : Value} {l : List (Cell)} (hl : Seq cellE T w v l) :
    Calls Tryz.prog 108 #[v, .func (.func 82) #[] #[]] w (HasV (l.any isVarC) w) := by
  obtain ⟨P, hP⟩ : ∃ P, P = (isVarC : Cell → Bool) := ⟨_, rfl⟩
  have HP := Lib.hid hP
  obtain ⟨ao, cap, rfl, h1, h2, h3, h4, h5⟩ := hl
  rw [← hP]
  clear hP
  go_enter Tryz.func108, Tryz.ntmps108
  go_wp2_with fail
  go_loopw [8] (fun i wr => ∃ k : Nat, k ≤ l.length ∧ i = .int .i64 k ∧ Hid (∀ x ∈ l.take k, P x = false) ∧ Below w.heap.size w wr) (fun i _ => l.length - (intOf i).toNat)
  case atStart => exact ⟨0, Nat.zero_le _, rfl, Lib.hid (by simp), Seq.way⟩
  case round =>
    obtain ⟨k, hk, rfl, hno, hbr⟩ := hrel
    have hzr := hbr.size
    by_cases hlt : k < l.length
    · obtain ⟨b, off, rfl, -, -, c0, c1, c2, -⟩ := (h5.below hbr fun _ _ h => h).cell hlt
      have hmem := Lib.hid (List.getElem_mem hlt)
      have hxs := Lib.hid (show P l[k] = false → ∀ y ∈ l.take (k + 1), P y = false from fun hp y hy => by
        rw [List.take_succ_eq_append_getElem hlt] at hy
        rcases List.mem_append.1 hy with h | h
        · exact hno.out y h
        · rw [List.mem_singleton] at h; rw [h]; exact hp)
      have hxa := Lib.hid (show P l[k] = true → l.any P = true from fun hp => List.any_eq_true.2 ⟨l[k], List.getElem_mem hlt, hp⟩)
      obtain ⟨x, hxe⟩ : ∃ x, x = l[k] := ⟨_, rfl⟩
      rw [← hxe] at hxs hxa hmem c0 c1 c2
      clear hxe h5 hno
      have hkl : (k : Int) < (l.length : Int) := by omega
      have hk0 : (0 : Int) ≤ (k : Int) := by omega
      go_wp2_with fail
      refine (isVar_spec (c := x)).mono ?_
      rw [show isVarC x = P x by rw [← HP.out]]
      rintro e w' ⟨rfl, hb'⟩
      have hbw := below_step hb' hbr
      cases hp : P x
      · have hst := Lib.hid (hxs.out hp)
        clear hp
        go_wp2_with fail
        go_roundw
        case rel => exact ⟨k + 1, hlt, by go_num, hst, hbw⟩
        case measure => simp [intOf]; omega
      · have hst := Lib.hid (hxa.out hp)
        clear hp
        go_wp2_with fail
        go_ret
        exact ⟨_, rfl, by rw [hst.out]; simp, hbw⟩
    · obtain rfl : k = l.length := by omega
      have hst := Lib.hid (show l.any P = false by
        rw [List.any_eq_false]; intro x hx; rw [hno.out x (by rw [List.take_length]; exact hx)]; simp)
      clear hno
      go_wp2_with fail
      go_ret
      exact ⟨_, rfl, by rw [hst.out]; rfl, hbr⟩

theorem cellVar_has {T : Nat → Prop} {w : World} {v : Value} {l : List (Cell)} (hl : Seq cellE T w v l) :
    Calls Tryz.prog 81 #[v, .func (.func 82) #[] #[]] w (RetV (.bool (l.any isVarC)) w) := by
  have hl' := Lib.hid hl
  obtain ⟨ao, cap, rfl, -⟩ := hl
  go_enter Tryz.func81, Tryz.ntmps81
  go_wp2_with fail
  refine (cellVar_index hl'.out).mono ?_
  rintro e w' ⟨r, rfl, hr, hb⟩
  have hr := Lib.hid hr
  go_wp2_with fail
  all_goals go_ret
  all_goals exact ⟨ret_bool (by rw [← hr.out]), hb⟩

theorem GroundP_spec {S : Nat → Prop} {w : World} {v : Value} {t : List Cell} (ht : Seq cellE S w v t) :
    Calls Tryz.prog 52 #[v] w (RetV (.bool (groundT t)) w) := by
  have Ht := Lib.hid ht
  have hg := Lib.hid (show groundT t = !(t.any isVarC) by unfold groundT isVarC; rw [List.not_any_eq_all_not])
  obtain ⟨ao, cap, rfl, -⟩ := ht
  go_enter Tryz.func52, Tryz.ntmps52
  go_wp2_with fail
  refine (cellVar_has Ht.out).mono ?_
  rintro e w1 ⟨rfl, hb1⟩
  go_wp2_with fail
  go_ret
  exact ⟨ret_bool hg.out.symm, hb1⟩

theorem endC_nil {n : Nat} {l : List Cell} (h : endC n l = some l.length) : n = 0 ↔ l = [] := by
  constructor
  · rintro rfl
    rw [endC_zero] at h
    exact List.eq_nil_of_length_eq_zero (by simpa using h.symm)
  · rintro rfl
    cases n with
    | zero => rfl
    | succ n => simp [endC] at h
theorem endC_rest {n : Nat} {l : List Cell} (h : endC (n + 1) l = some l.length) : ∃ m, endC 1 l = some m ∧ 1 ≤ m ∧ m ≤ l.length ∧ endC n (l.drop m) = some (l.drop m).length := by
  rw [Nat.add_comm, endC_add] at h
  obtain ⟨m, h1, h2⟩ := Option.bind_eq_some_iff.1 h
  obtain ⟨x, h3, h4⟩ := Option.map_eq_some_iff.1 h2
  have := endC_le h1
  exact ⟨m, h1, this.2, this.1, by rw [h3, List.length_drop]; congr 1; omega⟩



end
end Go.Proofs.YtckkjjiaecnciaaGreat
