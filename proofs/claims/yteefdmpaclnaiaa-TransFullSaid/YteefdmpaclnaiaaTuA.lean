/-
  Layer 13, plain: changes of unlike facts turned about; the row p(0), p(1), .., from which some are dropped and to which others are added.
-/
import Derived.Test.YteefdmpaclnaiaaTnT
namespace Go.Proofs.Yteefdmpaclnaiaa
open Go Go.RowKit

theorem lastL_cons (c : Chg) (r : List Chg) (x : List Cell) : lastL (c :: r) x = if lastL r x = 0 then lastS x 0 c else lastL r x := by
  unfold lastL
  rw [List.foldl_cons, lastS_start]
theorem lastL_app1 (r : List Chg) (c : Chg) (x : List Cell) : lastL (r ++ [c]) x = lastS x (lastL r x) c := by
  unfold lastL
  rw [List.foldl_append]; rfl
theorem lastL_none : ∀ {r : List Chg} {x : List Cell}, (∀ c ∈ r, c.t ≠ x) → lastL r x = 0
  | [], _, _ => rfl
  | c :: r, x, h => by
    rw [lastL_cons, lastL_none (fun d hd => h d (List.mem_cons_of_mem _ hd)), if_pos rfl]
    unfold lastS
    rw [if_neg (h c List.mem_cons_self)]
theorem lastL_zero {r : List Chg} {x : List Cell} (h : lastL r x = 0) : ∀ c ∈ r, c.t ≠ x := fun c hc e => lastL_mem hc (by rw [e]; exact h)
def UnL (r : List Chg) : Prop := r.Pairwise fun a b => a.t ≠ b.t
theorem lastL_rev : ∀ {r : List Chg} {x : List Cell}, UnL r → lastL r.reverse x = lastL r x
  | [], _, _ => rfl
  | c :: r, x, h => by
    obtain ⟨h1, h2⟩ := List.pairwise_cons.1 h
    rw [List.reverse_cons, lastL_app1, lastL_rev h2, lastL_cons]
    by_cases e : c.t = x
    · have hz : lastL r x = 0 := lastL_none fun d hd e' => h1 d hd (e.trans e'.symm)
      rw [hz, if_pos rfl]
    · have hn : ∀ n, lastS x n c = n := fun n => by unfold lastS; rw [if_neg e]
      rw [hn, hn]
      split
      · rename_i h0; exact h0
      · rfl
theorem nowL_rev {F : List (List Cell)} {r : List Chg} (hF : RowT F) (hc : ∀ c ∈ r, factT c.t = true) (hl : F.length + r.length ≤ 512) (hu : UnL r) : nowL F r.reverse = nowL F r :=
  sortT_ext (nowL_rowT hF).sort (nowL_rowT hF).sort fun x => by
    rw [mem_now_last hF (fun c h => hc c (List.mem_reverse.1 h)) (by rw [List.length_reverse]; exact hl), mem_now_last hF hc hl, lastL_rev hu]

def unlS (u : List Chg) (x : Chg) : List Chg := if lastL u (factM x.t) = 0 then u ++ [⟨x.add, factM x.t⟩] else u
def unlL (c : List Chg) : List Chg := c.foldl unlS []
theorem unlL_snoc {c : List Chg} {k : Nat} (hk : k < c.length) : unlL (c.take (k + 1)) = unlS (unlL (c.take k)) c[k] := by
  unfold unlL
  rw [List.take_succ_eq_append_getElem hk, List.foldl_append]; rfl
structure UnlT (u : List Chg) : Prop where
  un : UnL u
  fact : ∀ c ∈ u, factT c.t = true ∧ c.t.length ≤ 12
theorem unlS_t {u : List Chg} {x : Chg} (h : UnlT u) : UnlT (unlS u x) ∧ (unlS u x).length ≤ u.length + 1 := by
  unfold unlS
  split
  · rename_i h0
    refine ⟨⟨?_, fun c hc => ?_⟩, by simp⟩
    · refine List.pairwise_append.2 ⟨h.un, by simp, fun a ha b hb => ?_⟩
      simp at hb; subst hb
      exact lastL_zero h0 a ha
    · rcases List.mem_append.1 hc with hc | hc
      · exact h.fact c hc
      · simp at hc; subst hc; exact factM_fact _
  · exact ⟨h, by omega⟩
theorem unlL_go : ∀ (c u : List Chg), UnlT u → UnlT (c.foldl unlS u) ∧ (c.foldl unlS u).length ≤ u.length + c.length
  | [], u, h => ⟨h, by simp⟩
  | x :: c, u, h => by
    obtain ⟨h1, h2⟩ := unlS_t (x := x) h
    obtain ⟨h3, h4⟩ := unlL_go c _ h1
    rw [List.foldl_cons]
    exact ⟨h3, by simp only [List.length_cons]; omega⟩
theorem unlL_t (c : List Chg) : UnlT (unlL c) ∧ (unlL c).length ≤ c.length := by
  obtain ⟨h1, h2⟩ := unlL_go c [] ⟨List.Pairwise.nil, fun _ h => by cases h⟩
  exact ⟨h1, by simpa using (show (unlL c).length ≤ ([] : List Chg).length + c.length from h2)⟩
theorem begunL_self {u : List Chg} (h : ∀ c ∈ u, factT c.t = true ∧ c.t.length ≤ 12) (hl : u.length ≤ 60) : begunL u = u := by
  rw [begunL_eq hl]
  have : ∀ l : List Chg, (∀ c ∈ l, factT c.t = true ∧ c.t.length ≤ 12) → l.map (fun c => (⟨c.add, factM c.t⟩ : Chg)) = l := fun l hl => by
    induction l with
    | nil => rfl
    | cons c l ih =>
      have hc := hl c List.mem_cons_self
      rw [List.map_cons, ih fun d hd => hl d (List.mem_cons_of_mem _ hd), factM_self hc.1 hc.2]
  exact this u h

/-! The row of p(i). -/
def rowN (I : List Nat) : List (List Cell) := I.map fun (i : Nat) => oneT (i : Int)
theorem oneT_inj {a b : Nat} : oneT (a : Int) = oneT (b : Int) ↔ a = b := by
  unfold oneT
  constructor
  · intro h
    simp only [List.cons.injEq, Cell.mk.injEq, and_true, true_and] at h
    omega
  · rintro rfl; rfl
theorem mem_rowN {I : List Nat} {a : Nat} : oneT (a : Int) ∈ rowN I ↔ a ∈ I := by
  unfold rowN
  rw [List.mem_map]
  constructor
  · rintro ⟨b, hb, e⟩
    rw [oneT_inj] at e
    exact e ▸ hb
  · intro h; exact ⟨a, h, rfl⟩
theorem oneT_fact (a : Nat) (h : (a : Int) ≤ 1000000) : factT (oneT (a : Int)) = true := fact_one (by omega) (by omega)
theorem cmpC_self (c : Cell) : cmpC c c = 0 := by
  unfold cmpC cmpS cmpZ
  simp [bytes_irr]
theorem cmpZ_one {a b : Nat} : cmpT (oneT (a : Int)) (oneT (b : Int)) = cmpZ a b ∧ cmpR (oneT (a : Int)) (oneT (b : Int)) = cmpZ a b := by
  have h : cmpC ⟨2, ⟨#[]⟩, (a : Int)⟩ ⟨2, ⟨#[]⟩, (b : Int)⟩ = cmpZ a b := by
    unfold cmpC
    have h1 : cmpZ 2 2 = 0 := rfl
    have h2 : cmpS ⟨#[]⟩ ⟨#[]⟩ = 0 := by unfold cmpS; simp [bytes_irr]
    dsimp only
    rw [h1, if_neg (by simp), h2]
    split
    · rfl
    · rename_i h; simp at h; exact h.symm
  unfold oneT cmpT cmpR
  rw [cmpC_self, if_neg (by simp), if_neg (by simp)]
  unfold cmpT cmpR
  rw [h]
  constructor
  · split
    · rfl
    · rename_i h; simp at h; rw [h]; rfl
  · split
    · rfl
    · rename_i h; simp at h; rw [h]; rfl
theorem rowN_rowT {I : List Nat} (h : I.Pairwise (· < ·)) (hb : ∀ i ∈ I, i ≤ 2000) (hl : I.length ≤ 1000000) : RowT (rowN I) where
  sort := by
    unfold rowN SortT
    rw [List.pairwise_map]
    refine h.imp fun {a b} hab => ?_
    rw [cmpZ_one.1]
    unfold cmpZ
    rw [if_pos (by omega)]; decide
  fact := fun x hx => by
    unfold rowN at hx
    obtain ⟨i, hi, rfl⟩ := List.mem_map.1 hx
    exact oneT_fact i (by have := hb i hi; omega)
  len := by unfold rowN; rw [List.length_map]; exact hl
theorem insT_last {t : List Cell} : ∀ {l : List (List Cell)}, (∀ a ∈ l, ¬ cmpR t a < 0) → insT t l = l ++ [t]
  | [], _ => rfl
  | a :: l, h => by
    unfold insT
    rw [if_neg (h a List.mem_cons_self), insT_last fun b hb => h b (List.mem_cons_of_mem _ hb)]; rfl
theorem step_add {I : List Nat} {x : Nat} (hx : x ≤ 2000) (h : ∀ y ∈ I, y < x) (hl : I.length < 512) : doE (rowN I) ⟨true, oneT (x : Int)⟩ = 0 ∧ doO (rowN I) ⟨true, oneT (x : Int)⟩ = rowN (I ++ [x]) := by
  have hn : oneT (x : Int) ∉ rowN I := fun e => by have := h x (mem_rowN.1 e); omega
  have hll : ¬ 512 ≤ (rowN I).length := by unfold rowN; rw [List.length_map]; omega
  unfold doE doO addE addO
  dsimp only
  rw [if_pos rfl, if_pos rfl, if_pos (oneT_fact x (by omega)), if_pos (oneT_fact x (by omega)), if_neg hn, if_neg hn, if_neg hll, if_neg hll]
  refine ⟨rfl, ?_⟩
  rw [insT_last]
  · unfold rowN; rw [List.map_append]; rfl
  · intro a ha
    unfold rowN at ha
    obtain ⟨i, hi, rfl⟩ := List.mem_map.1 ha
    rw [cmpZ_one.2]
    unfold cmpZ
    have := h i hi
    rw [if_neg (by omega), if_pos (by omega)]; decide
theorem step_full {I : List Nat} {x : Nat} (hx : x ≤ 2000) (h : ∀ y ∈ I, y < x) (hl : 512 ≤ I.length) : doE (rowN I) ⟨true, oneT (x : Int)⟩ = 2 := by
  have hn : oneT (x : Int) ∉ rowN I := fun e => by have := h x (mem_rowN.1 e); omega
  unfold doE addE
  dsimp only
  rw [if_pos rfl, if_pos (oneT_fact x (by omega)), if_neg hn, if_pos (by unfold rowN; rw [List.length_map]; exact hl)]
theorem step_drop {I : List Nat} {x : Nat} (hx : x ≤ 2000) (h : ∀ y ∈ I, y ≠ x) : doE (rowN (x :: I)) ⟨false, oneT (x : Int)⟩ = 0 ∧ doO (rowN (x :: I)) ⟨false, oneT (x : Int)⟩ = rowN I := by
  have hn : oneT (x : Int) ∈ rowN (x :: I) := mem_rowN.2 List.mem_cons_self
  unfold doE doO dropE dropO
  dsimp only
  rw [if_neg (show ¬ false = true by simp), if_neg (show ¬ false = true by simp), if_pos (oneT_fact x (by omega)), if_pos hn, if_pos ⟨oneT_fact x (by omega), hn⟩]
  refine ⟨rfl, ?_⟩
  unfold dropT fltL rowN
  rw [List.map_cons, List.filter_cons_of_neg (by simp)]
  refine List.filter_eq_self.2 fun a ha => ?_
  obtain ⟨i, hi, rfl⟩ := List.mem_map.1 ha
  have := h i hi
  simp [oneT_inj, this]
theorem nowL_app (l : List (List Cell)) (r s : List Chg) : nowL l (r ++ s) = nowL (nowL l r) s := by unfold nowL; rw [List.foldl_append]
theorem nowL_cons (l : List (List Cell)) (c : Chg) (r : List Chg) : nowL l (c :: r) = nowL (if doE l c = 0 then doO l c else l) r := rfl
theorem fullL_app : ∀ (r s : List Chg) (l : List (List Cell)), fullL l (r ++ s) = (fullL l r || fullL (nowL l r) s)
  | [], s, l => by simp [fullL, nowL]
  | c :: r, s, l => by
    rw [List.cons_append, nowL_cons]
    simp only [fullL]
    split
    · exact fullL_app r s _
    · rw [fullL_app r s l, Bool.or_assoc]

def drops (k d : Nat) : List Chg := (List.range' k d).map fun (i : Nat) => ⟨false, oneT (i : Int)⟩
def adds (k a : Nat) : List Chg := (List.range' k a).map fun (i : Nat) => ⟨true, oneT (i : Int)⟩
theorem drops_run : ∀ (d k m : Nat), d ≤ m → k + m ≤ 2000 → nowL (rowN (List.range' k m)) (drops k d) = rowN (List.range' (k + d) (m - d)) ∧ fullL (rowN (List.range' k m)) (drops k d) = false
  | 0, k, m, _, _ => by simp [drops, nowL, fullL]
  | d + 1, k, m, h, hk => by
    obtain ⟨m', rfl⟩ : ∃ m', m = m' + 1 := ⟨m - 1, by omega⟩
    have hst := step_drop (I := List.range' (k + 1) m') (x := k) (by omega) (fun y hy => by have := List.mem_range'_1.1 hy; omega)
    obtain ⟨h1, h2⟩ := drops_run d (k + 1) m' (by omega) (by omega)
    have e : drops k (d + 1) = ⟨false, oneT (k : Int)⟩ :: drops (k + 1) d := by unfold drops; rw [List.range'_succ, List.map_cons]
    rw [e, List.range'_succ, nowL_cons, hst.1, if_pos rfl, hst.2, h1]
    refine ⟨by rw [show k + 1 + d = k + (d + 1) by omega, show m' + 1 - (d + 1) = m' - d by omega], ?_⟩
    simp only [fullL]
    rw [hst.1, if_pos rfl, hst.2, h2]
theorem adds_run : ∀ (a x : Nat) (I : List Nat), (∀ y ∈ I, y < x) → x + a ≤ 2000 → I.length + a ≤ 512 → nowL (rowN I) (adds x a) = rowN (I ++ List.range' x a) ∧ fullL (rowN I) (adds x a) = false
  | 0, x, I, _, _, _ => by simp [adds, nowL, fullL]
  | a + 1, x, I, h, hx, hl => by
    have hst := step_add (I := I) (x := x) (by omega) h (by omega)
    obtain ⟨h1, h2⟩ := adds_run a (x + 1) (I ++ [x]) (fun y hy => by
      rcases List.mem_append.1 hy with hy | hy
      · have := h y hy; omega
      · simp at hy; omega) (by omega) (by rw [List.length_append]; simp; omega)
    have e : adds x (a + 1) = ⟨true, oneT (x : Int)⟩ :: adds (x + 1) a := by unfold adds; rw [List.range'_succ, List.map_cons]
    rw [e, nowL_cons, hst.1, if_pos rfl, hst.2, h1, List.range'_succ]
    refine ⟨by rw [List.append_assoc]; rfl, ?_⟩
    simp only [fullL]
    rw [hst.1, if_pos rfl, hst.2, h2]
theorem adds_full : ∀ (a x : Nat) (I : List Nat), (∀ y ∈ I, y < x) → x + a ≤ 2000 → 512 ≤ I.length → nowL (rowN I) (adds x a) = rowN I ∧ (0 < a → fullL (rowN I) (adds x a) = true)
  | 0, x, I, _, _, _ => ⟨rfl, fun h => absurd h (by omega)⟩
  | a + 1, x, I, h, hx, hl => by
    have hst := step_full (I := I) (x := x) (by omega) h hl
    obtain ⟨h1, -⟩ := adds_full a (x + 1) I (fun y hy => by have := h y hy; omega) (by omega) hl
    have e : adds x (a + 1) = ⟨true, oneT (x : Int)⟩ :: adds (x + 1) a := by unfold adds; rw [List.range'_succ, List.map_cons]
    rw [e, nowL_cons, hst, if_neg (by omega), h1]
    refine ⟨rfl, fun _ => ?_⟩
    simp only [fullL]
    rw [hst, if_neg (by omega)]; rfl
theorem adds_cut {x a k : Nat} (h : k ≤ a) : adds x a = adds x k ++ adds (x + k) (a - k) := by
  unfold adds
  rw [← List.map_append, show List.range' x a = List.range' x k ++ List.range' (x + k) (a - k) by
    have := List.range'_append (s := x) (m := k) (n := a - k) (step := 1)
    rw [Nat.one_mul] at this
    rw [this]; congr 1; omega]

/-- **With n facts, d of them dropped and a others added.** -/
structure FullT (n d a : Nat) : Prop where
  big : 512 < n - d + a → fullL (rowN (List.range' 0 n)) (drops 0 d ++ adds 1000 a) = true ∧ (nowL (rowN (List.range' 0 n)) (drops 0 d ++ adds 1000 a)).length = 512
  fits : n - d + a ≤ 512 → fullL (rowN (List.range' 0 n)) (drops 0 d ++ adds 1000 a) = false ∧ (nowL (rowN (List.range' 0 n)) (drops 0 d ++ adds 1000 a)).length = n - d + a ∧
    (lessT (nowL (rowN (List.range' 0 n)) (drops 0 d ++ adds 1000 a)) (rowN (List.range' 0 n))).length = a ∧ (lessT (rowN (List.range' 0 n)) (nowL (rowN (List.range' 0 n)) (drops 0 d ++ adds 1000 a))).length = d
theorem lessT_rowN (I J : List Nat) : lessT (rowN I) (rowN J) = rowN (I.filter fun i => !decide (i ∈ J)) := by
  unfold lessT fltL
  have : ∀ I : List Nat, (rowN I).filter (fun t => !decide (t ∈ rowN J)) = rowN (I.filter fun i => !decide (i ∈ J)) := fun I => by
    induction I with
    | nil => rfl
    | cons i I ih =>
      have e : rowN (i :: I) = oneT (i : Int) :: rowN I := rfl
      rw [e, List.filter_cons, List.filter_cons, ih]
      by_cases h : i ∈ J
      · simp [h, mem_rowN]
      · simp [h, mem_rowN]; rfl
  exact this I
theorem full_all {n d a : Nat} (hn : 480 ≤ n) (hn1 : n ≤ 512) (hd : d < 40) (ha : a < 80) : FullT n d a := by
  have hdr := drops_run d 0 n (by omega) (by omega)
  rw [Nat.zero_add] at hdr
  have hlt : ∀ y ∈ List.range' d (n - d), y < 1000 := fun y hy => by have := List.mem_range'_1.1 hy; omega
  refine ⟨fun h => ?_, fun h => ?_⟩
  · obtain ⟨k, hk⟩ : ∃ k, k = 512 - (n - d) := ⟨_, rfl⟩
    have h1 := adds_run k 1000 (List.range' d (n - d)) hlt (by omega) (by rw [List.length_range']; omega)
    have h2 := adds_full (a - k) (1000 + k) (List.range' d (n - d) ++ List.range' 1000 k) (fun y hy => by
      rcases List.mem_append.1 hy with hy | hy
      · have := hlt y hy; omega
      · have := List.mem_range'_1.1 hy; omega) (by omega) (by rw [List.length_append, List.length_range', List.length_range']; omega)
    rw [adds_cut (x := 1000) (a := a) (k := k) (by omega), fullL_app, nowL_app, hdr.1, hdr.2, fullL_app, nowL_app, h1.1, h1.2, h2.1, h2.2 (by omega)]
    refine ⟨rfl, ?_⟩
    unfold rowN
    rw [List.length_map, List.length_append, List.length_range', List.length_range']; omega
  · have h1 := adds_run a 1000 (List.range' d (n - d)) hlt (by omega) (by rw [List.length_range']; omega)
    rw [fullL_app, nowL_app, hdr.1, hdr.2, h1.1, h1.2, lessT_rowN, lessT_rowN]
    have e0 : List.range' 0 n = List.range' 0 d ++ List.range' d (n - d) := by
      have := List.range'_append (s := 0) (m := d) (n := n - d) (step := 1)
      rw [Nat.one_mul, Nat.zero_add] at this
      rw [this]; congr 1; omega
    have f1 : (List.range' d (n - d) ++ List.range' 1000 a).filter (fun i => !decide (i ∈ List.range' 0 n)) = List.range' 1000 a := by
      rw [List.filter_append, List.filter_eq_nil_iff.2 (fun y hy => by
        have := List.mem_range'_1.1 hy
        simp [List.mem_range'_1]; omega), List.nil_append]
      exact List.filter_eq_self.2 fun y hy => by
        have := List.mem_range'_1.1 hy
        simp [List.mem_range'_1]; omega
    have f2 : (List.range' 0 n).filter (fun i => !decide (i ∈ List.range' d (n - d) ++ List.range' 1000 a)) = List.range' 0 d := by
      rw [e0, List.filter_append]
      rw [List.filter_eq_self.2 (fun y hy => by
        have := List.mem_range'_1.1 hy
        simp [List.mem_range'_1]; omega), List.filter_eq_nil_iff.2 (fun y hy => by
        have := List.mem_range'_1.1 hy
        simp [List.mem_range'_1]; omega), List.append_nil]
    rw [f1, f2]
    refine ⟨rfl, ?_, ?_, ?_⟩ <;> unfold rowN <;> simp only [List.length_map, List.length_append, List.length_range']
end Go.Proofs.Yteefdmpaclnaiaa
