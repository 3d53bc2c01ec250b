/-
  Layer 18, plain facts: the order of rules; rules in order are their set; what follows, and the well-founded model.
-/
import Derived.Test.YtdbennmbbmoflaaResJ
namespace Go.Proofs.Ytdbennmbbmoflaa
open Go Go.RowKit

/-! ### The order -/
theorem lessL_neg : ∀ l m : List Int, lessL m l = - lessL l m
  | [], [] => rfl
  | [], _ :: _ => rfl
  | _ :: _, [] => rfl
  | a :: l, b :: m => by
    have ih := lessL_neg l m
    unfold lessL
    by_cases h1 : a < b
    · rw [if_pos h1, if_neg (by omega), if_pos h1]; rfl
    · by_cases h2 : b < a
      · rw [if_pos h2, if_neg h1, if_pos h2]
      · rw [if_neg h1, if_neg h2, if_neg h2, if_neg h1, ih]

theorem lessL_trans : ∀ {l m k : List Int}, lessL l m < 0 → lessL m k < 0 → lessL l k < 0
  | [], [], k, h, _ => by simp [lessL] at h
  | [], b :: m, [], _, h => by simp [lessL] at h
  | [], b :: m, c :: k, _, _ => by simp [lessL]
  | a :: l, [], k, h, _ => by simp [lessL] at h
  | a :: l, b :: m, [], _, h => by simp [lessL] at h
  | a :: l, b :: m, c :: k, h, h' => by
    have ih := @lessL_trans l m k
    unfold lessL at h h' ⊢
    by_cases h1 : a < c
    · rw [if_pos h1]; omega
    · by_cases h2 : c < a
      · exfalso
        by_cases h3 : a < b
        · rw [if_neg (by omega : ¬ b < c), if_pos (by omega : c < b)] at h'; omega
        · by_cases h4 : b < a
          · rw [if_neg h3, if_pos h4] at h; omega
          · rw [if_neg (by omega : ¬ b < c), if_pos (by omega : c < b)] at h'; omega
      · rw [if_neg h1, if_neg h2]
        by_cases h3 : a < b
        · rw [if_neg (by omega : ¬ b < c), if_pos (by omega : c < b)] at h'; omega
        · by_cases h4 : b < a
          · rw [if_neg h3, if_pos h4] at h; omega
          · rw [if_neg h3, if_neg h4] at h
            rw [if_neg (by omega : ¬ b < c), if_neg (by omega : ¬ c < b)] at h'
            exact ih h h'

/-- A rule as one row of rows: its order is that of these. -/
theorem orderR_lt {a b : Rule} : orderR a b < 0 ↔ a.head < b.head ∨ (a.head = b.head ∧ (lessL a.pos b.pos < 0 ∨ (a.pos = b.pos ∧ lessL a.neg b.neg < 0))) := by
  have hp := @lessL_zero a.pos b.pos
  unfold orderR
  simp only
  by_cases h1 : a.head < b.head
  · simp [h1]
  · by_cases h2 : b.head < a.head
    · simp [h1, h2]; omega
    · have h3 : a.head = b.head := by omega
      simp only [h3, Int.lt_irrefl, if_false, if_true, true_and, false_or]
      by_cases h4 : lessL a.pos b.pos = 0
      · have h5 := hp.1 h4
        rw [if_pos h4, h4]
        simp [h5]
      · have h5 : ¬ a.pos = b.pos := fun h => h4 (hp.2 h)
        simp [h4, h5]

theorem orderR_neg (a b : Rule) : orderR b a = - orderR a b := by
  have h1 := lessL_neg a.pos b.pos
  have h2 := lessL_neg a.neg b.neg
  unfold orderR
  simp only [h1, h2]
  by_cases h3 : a.head < b.head
  · have h4 : ¬ b.head < a.head := by omega
    simp [h3, h4]
  · by_cases h4 : b.head < a.head
    · simp [h3, h4]
    · simp only [h3, h4, if_false, if_true, Int.neg_eq_zero]
      split
      · rfl
      · rfl

theorem orderR_trans {a b c : Rule} (h : orderR a b < 0) (h' : orderR b c < 0) : orderR a c < 0 := by
  rw [orderR_lt] at h h' ⊢
  rcases h with h | ⟨h, h2⟩
  · rcases h' with h' | ⟨h', _⟩
    · exact .inl (by omega)
    · exact .inl (by omega)
  · rcases h' with h' | ⟨h', h3⟩
    · exact .inl (by omega)
    · refine .inr ⟨by omega, ?_⟩
      rcases h2 with h2 | ⟨h2, h4⟩
      · rcases h3 with h3 | ⟨h3, _⟩
        · exact .inl (lessL_trans h2 h3)
        · exact .inl (h3 ▸ h2)
      · rcases h3 with h3 | ⟨h3, h5⟩
        · exact .inl (h2 ▸ h3)
        · exact .inr ⟨h2.trans h3, lessL_trans h4 h5⟩

theorem orderR_self (a : Rule) : orderR a a = 0 := orderR_zero.2 rfl
theorem orderR_asymm {a b : Rule} (h : orderR a b < 0) : ¬ orderR b a < 0 := by rw [orderR_neg a b]; omega

/-! ### Rules in order -/
def SortR (l : List Rule) : Prop := l.Pairwise fun a b => orderR a b < 0

theorem SortR.take {l : List Rule} (h : SortR l) (k : Nat) : SortR (l.take k) := h.sublist (List.take_sublist _ _)
theorem SortR.drop {l : List Rule} (h : SortR l) (k : Nat) : SortR (l.drop k) := h.sublist (List.drop_sublist _ _)

theorem insR_cases (out : List Rule) (x : Rule) :
    (insR out x = out ∧ x ∈ out) ∨ (insR out x = out.take (insAt x out) ++ [x] ++ out.drop (insAt x out) ∧ ∀ r, out[insAt x out]? = some r → 0 < orderR r x) := by
  unfold insR
  split
  · rename_i r hr
    obtain ⟨hlt, he⟩ := List.getElem?_eq_some_iff.1 hr
    have := insAt_at x out hlt
    rw [he] at this
    split
    · rename_i h0
      left
      exact ⟨rfl, (orderR_zero.1 h0) ▸ List.mem_of_getElem? hr⟩
    · right
      refine ⟨rfl, ?_⟩
      intro q hq
      rw [hr] at hq
      simp only [Option.some.injEq] at hq
      subst hq; omega
  · rename_i hn
    right
    exact ⟨rfl, fun r hr => by rw [hn] at hr; simp at hr⟩

theorem insR_has {out : List Rule} {x r : Rule} : r ∈ insR out x ↔ r ∈ out ∨ r = x := by
  refine ⟨insR_mem, fun h => ?_⟩
  rcases insR_cases out x with ⟨h1, h2⟩ | ⟨h1, -⟩
  · rw [h1]
    rcases h with h | rfl
    · exact h
    · exact h2
  · rw [h1]
    simp only [List.mem_append, List.mem_singleton]
    rcases h with h | rfl
    · rw [← List.take_append_drop (insAt x out) out, List.mem_append] at h
      rcases h with h | h
      · exact .inl (.inl h)
      · exact .inr h
    · exact .inl (.inr rfl)

theorem insR_sort {out : List Rule} (h : SortR out) (x : Rule) : SortR (insR out x) := by
  rcases insR_cases out x with ⟨h1, -⟩ | ⟨h1, h2⟩
  · rw [h1]; exact h
  · rw [h1, List.append_assoc]
    have hb : ∀ r ∈ out.take (insAt x out), orderR r x < 0 := by
      intro r hr
      obtain ⟨j, hj, rfl⟩ := List.mem_iff_getElem.1 hr
      rw [List.length_take] at hj
      rw [List.getElem_take]
      exact insAt_lt x out j (by omega) (by omega)
    have ha : ∀ r ∈ out.drop (insAt x out), orderR x r < 0 := by
      intro r hr
      obtain ⟨j, hj, rfl⟩ := List.mem_iff_getElem.1 hr
      rw [List.length_drop] at hj
      rw [List.getElem_drop]
      have hlt : insAt x out < out.length := by omega
      have h0 : orderR x out[insAt x out] < 0 := by
        have := h2 _ (List.getElem?_eq_getElem hlt)
        rw [orderR_neg out[insAt x out] x]; omega
      cases j with
      | zero => exact h0
      | succ j =>
        exact orderR_trans h0 (List.pairwise_iff_getElem.1 h _ _ hlt (by omega) (by omega))
    refine List.pairwise_append.2 ⟨h.take _, ?_, ?_⟩
    · rw [List.singleton_append]; exact List.pairwise_cons.2 ⟨ha, h.drop _⟩
    · intro a hA b hB
      rw [List.singleton_append, List.mem_cons] at hB
      rcases hB with rfl | hB
      · exact hb a hA
      · exact orderR_trans (hb a hA) (ha b hB)

theorem rulesL_sort (l : List Rule) : SortR (rulesL l) := by
  have : ∀ (l out : List Rule), SortR out → SortR (l.foldl insR out) := by
    intro l
    induction l with
    | nil => intro out h; exact h
    | cons x l ih => intro out h; exact ih _ (insR_sort h x)
  exact this l [] List.Pairwise.nil

theorem rulesL_has {l : List Rule} {r : Rule} : r ∈ rulesL l ↔ r ∈ l := by
  refine ⟨rulesL_mem, fun h => ?_⟩
  have : ∀ (l out : List Rule), (r ∈ out ∨ r ∈ l) → r ∈ l.foldl insR out := by
    intro l
    induction l with
    | nil => intro out h; simpa using h
    | cons x l ih =>
      intro out h
      refine ih _ ?_
      rcases h with h | h
      · exact .inl (insR_has.2 (.inl h))
      · rcases List.mem_cons.1 h with h | h
        · exact .inl (insR_has.2 (.inr h))
        · exact .inr h
  exact this l [] (.inr h)

/-- Rules in order are their set. -/
theorem SortR.ext : ∀ {l m : List Rule}, SortR l → SortR m → (∀ r, r ∈ l ↔ r ∈ m) → l = m
  | [], [], _, _, _ => rfl
  | [], b :: m, _, _, h => by have := (h b).2 (by simp); simp at this
  | a :: l, [], _, _, h => by have := (h a).1 (by simp); simp at this
  | a :: l, b :: m, h1, h2, h => by
    have h1' := List.pairwise_cons.1 h1
    have h2' := List.pairwise_cons.1 h2
    have hab : a = b := by
      rcases List.mem_cons.1 ((h a).1 (by simp)) with h3 | h3
      · exact h3
      · rcases List.mem_cons.1 ((h b).2 (by simp)) with h4 | h4
        · exact h4.symm
        · exact absurd (h2'.1 a h3) (orderR_asymm (h1'.1 b h4))
    subst hab
    congr 1
    refine SortR.ext h1'.2 h2'.2 fun r => ?_
    constructor
    · intro hr
      rcases List.mem_cons.1 ((h r).1 (List.mem_cons_of_mem _ hr)) with h3 | h3
      · subst h3; have := h1'.1 r hr; rw [orderR_self] at this; omega
      · exact h3
    · intro hr
      rcases List.mem_cons.1 ((h r).2 (List.mem_cons_of_mem _ hr)) with h3 | h3
      · subst h3; have := h2'.1 r hr; rw [orderR_self] at this; omega
      · exact h3

theorem rulesL_id {l : List Rule} (h : SortR l) : rulesL l = l := SortR.ext (rulesL_sort l) h fun _ => rulesL_has

theorem doL_sort {g : Prog} (h : SortR g.rules) (s : Int × Int) : SortR (doL g s).1.rules := by
  unfold doL
  split
  · exact h
  · split
    · exact h
    · simp only
      split
      · exact h
      · exact rulesL_sort _

/-! ### What follows by rules no Neg of which is in I -/
inductive Der (rs : List Rule) (I : Int → Prop) : Int → Prop
  | mk (r : Rule) (hr : r ∈ rs) (hn : ∀ x ∈ r.neg, ¬ I x) (hp : ∀ x ∈ r.pos, Der rs I x) : Der rs I r.head

theorem Der.anti {rs : List Rule} {I J : Int → Prop} (h : ∀ x, I x → J x) {a : Int} (hd : Der rs J a) : Der rs I a := by
  induction hd with
  | mk r hr hn _ ih => exact .mk r hr (fun x hx hI => hn x hx (h x hI)) ih

/-- If each rule that fires fires there too. -/
theorem Der.sub {rs rs' : List Rule} {I : Int → Prop} (h : ∀ r ∈ rs, (∀ x ∈ r.neg, ¬ I x) → (∀ x ∈ r.pos, Der rs I x) → (∀ x ∈ r.pos, Der rs' I x) → Der rs' I r.head) {a : Int} (hd : Der rs I a) : Der rs' I a := by
  induction hd with
  | mk r hr hn hp ih => exact h r hr hn hp ih

theorem Der.has {rs : List Rule} {I : Int → Prop} {a : Int} (h : Der rs I a) : ∃ r ∈ rs, r.head = a := by
  cases h with
  | mk r hr _ _ => exact ⟨r, hr, rfl⟩

/-- What is so; what may be so. -/
def Tru (rs : List Rule) (a : Int) : Prop := ∀ X : Int → Prop, (∀ y, Der rs (Der rs X) y → X y) → X a
def May (rs : List Rule) (a : Int) : Prop := Der rs (Tru rs) a

theorem Tru.le {rs : List Rule} {X : Int → Prop} (h : ∀ y, Der rs (Der rs X) y → X y) {a : Int} (ha : Tru rs a) : X a := ha X h
theorem Tru.of {rs : List Rule} {a : Int} (h : Der rs (May rs) a) : Tru rs a := by
  intro X hX
  exact hX a (h.anti fun x hx => hx.anti fun y hy => hy.le hX)
theorem Tru.fix {rs : List Rule} {a : Int} : Tru rs a ↔ Der rs (May rs) a :=
  ⟨fun h => h.le fun _ hy => hy.anti fun _ hx => hx.anti fun _ hz => Tru.of hz, Tru.of⟩
theorem Tru.eq (rs : List Rule) : Tru rs = Der rs (May rs) := funext fun _ => propext Tru.fix
theorem May.eq (rs : List Rule) : May rs = Der rs (Tru rs) := rfl

/-- The least fixed point, from any that lies below. -/
theorem Tru.eq_of {rs : List Rule} {X Y : Int → Prop} (h1 : Der rs X = Y) (h2 : Der rs Y = X) (h3 : ∀ a, X a → Tru rs a) : Tru rs = X ∧ May rs = Y := by
  have : Tru rs = X := funext fun a => propext ⟨fun h => h.le fun y hy => by rw [h1, h2] at hy; exact hy, h3 a⟩
  exact ⟨this, by rw [May.eq, this, h1]⟩

theorem Tru.may {rs : List Rule} {a : Int} (h : Tru rs a) : May rs a :=
  h.le (X := May rs) fun y hy => by rw [← Tru.eq] at hy; exact hy
end Go.Proofs.Ytdbennmbbmoflaa
