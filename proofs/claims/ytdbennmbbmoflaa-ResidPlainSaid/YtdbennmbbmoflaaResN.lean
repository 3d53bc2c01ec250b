/-
  Layer 18, plain facts: no simplification changes the model, nor what is left; the end is what is left, and its truth is the model.
-/
import Derived.Test.YtdbennmbbmoflaaResM
namespace Go.Proofs.Ytdbennmbbmoflaa
open Go Go.RowKit

/-! ### The functions' answers, said plainly -/
theorem factB_iff {g : Prog} {a : Int} : factB g a = true ↔ ∃ r ∈ g.rules, r.head = a ∧ r.pos = [] ∧ r.neg = [] := by
  unfold factB; simp [List.any_eq_true, and_assoc]
theorem rulesB_iff {g : Prog} {a : Int} : rulesB g a = true ↔ ∃ r ∈ g.rules, r.head = a := by
  unfold rulesB; simp [List.any_eq_true]

def Fol (rs : List Rule) (a : Int) : Prop := Der rs (fun _ => False) a

theorem fact_der {g : Prog} {a : Int} (h : factB g a = true) (I : Int → Prop) : Der g.rules I a := by
  obtain ⟨r, hr, rfl, hp, hn⟩ := factB_iff.1 h
  exact .mk r hr (by simp [hn]) (by simp [hp])

/-! follows -/
def SoundF (rs : List Rule) (out : List Bool) : Prop := ∀ i : Nat, out.getD i false = true → Fol rs (i : Int)
def ClosedF (rs : List Rule) (out : List Bool) : Prop := ∀ r ∈ rs, allPos out r.pos = true → out.getD r.head.toNat false = true

theorem getD_set_true {out : List Bool} {i j : Nat} (h : (out.set i true).getD j false = true) : out.getD j false = true ∨ i = j := by
  rw [List.getD_eq_getElem?_getD, List.getElem?_set] at h
  split at h
  · rename_i hij; exact .inr hij
  · left; rw [List.getD_eq_getElem?_getD]; exact h

theorem fpStep_sound {n : Nat} {rs : List Rule} {st : List Bool × Bool} {r : Rule} (hr : r ∈ rs) (hg : GoodR n r) (h : SoundF rs st.1) : SoundF rs (fpStep st r).1 := by
  unfold fpStep
  split
  · rename_i hc
    intro i hi
    rcases getD_set_true hi with h1 | h1
    · exact h i h1
    · have h0 := hg.head.1
      have : ((r.head.toNat : Nat) : Int) = r.head := by omega
      rw [← h1, this]
      refine .mk r hr (fun _ _ h => h) fun x hx => ?_
      simp only [Bool.and_eq_true] at hc
      have hc1 := hc.1
      unfold allPos at hc1
      rw [List.all_eq_true] at hc1
      have := h _ (hc1 x hx)
      have hx0 := (hg.pos x hx).1
      have he : ((x.toNat : Nat) : Int) = x := by omega
      rwa [he] at this
  · exact h

theorem fpass_sound {n : Nat} {rs : List Rule} (hg : ∀ r ∈ rs, GoodR n r) {out : List Bool} (h : SoundF rs out) : SoundF rs (fpass rs out).1 := by
  have : ∀ (l : List Rule), (∀ r ∈ l, r ∈ rs) → ∀ st : List Bool × Bool, SoundF rs st.1 → SoundF rs (l.foldl fpStep st).1 := by
    intro l
    induction l with
    | nil => intro _ st h; exact h
    | cons r l ih =>
      intro hl st h
      exact ih (fun q hq => hl q (by simp [hq])) _ (fpStep_sound (hl r (by simp)) (hg r (hl r (by simp))) h)
  exact this rs (fun _ h => h) (out, false) h

theorem followsGo_sound {n : Nat} {rs : List Rule} (hg : ∀ r ∈ rs, GoodR n r) : ∀ (f : Nat) {out : List Bool}, SoundF rs out → SoundF rs (followsGo f rs out)
  | 0, _, h => h
  | f + 1, out, h => by
    rw [followsGo_succ]
    split
    · exact followsGo_sound hg f (fpass_sound hg h)
    · exact fpass_sound hg h

theorem fp_flag : ∀ (l : List Rule) (st : List Bool × Bool), (l.foldl fpStep st).2 = false → st.2 = false ∧ ∀ r ∈ l, allPos st.1 r.pos = true → st.1.getD r.head.toNat false = true
  | [], st, h => ⟨h, by simp⟩
  | r :: l, st, h => by
    rw [List.foldl_cons] at h
    have ih := fp_flag l _ h
    by_cases hc : (allPos st.1 r.pos && !(st.1.getD r.head.toNat false)) = true
    · have : (fpStep st r).2 = true := by unfold fpStep; rw [if_pos hc]
      rw [this] at ih; simp at ih
    · have he : fpStep st r = st := by unfold fpStep; rw [if_neg hc]
      rw [he] at ih
      refine ⟨ih.1, fun q hq hp => ?_⟩
      rcases List.mem_cons.1 hq with rfl | hq
      · rw [hp] at hc; simpa using hc
      · exact ih.2 q hq hp

theorem followsGo_closed {n : Nat} {rs : List Rule} (hg : ∀ r ∈ rs, GoodR n r) : ∀ (f : Nat) {out : List Bool}, out.length = n → out.count false < f → ClosedF rs (followsGo f rs out)
  | 0, _, _, h => by omega
  | f + 1, out, hl, h => by
    have hh : ∀ r ∈ rs, r.head.toNat < out.length := by intro r hr; have := (hg r hr).head; omega
    rw [followsGo_succ]
    rcases fpass_cases rs out hh with hp | ⟨hp, hq⟩
    · rw [hp]
      simp only [Bool.false_eq_true, if_false]
      exact (fp_flag rs (out, false) (by show (fpass rs out).2 = false; rw [hp])).2
    · rw [hp, if_pos rfl]
      exact followsGo_closed hg f (by rw [fpass_len]; exact hl) (by omega)

theorem follows_iff {g : Prog} (hg : GoodP g) {a : Int} (h0 : 0 ≤ a) : (followsL g).getD a.toNat false = true ↔ Fol g.rules a := by
  have hs : SoundF g.rules (followsL g) := followsGo_sound hg.rules _ (by
    intro i hi
    rw [List.getD_eq_getElem?_getD, List.getElem?_replicate] at hi
    split at hi <;> simp at hi)
  have hc : ClosedF g.rules (followsL g) := followsGo_closed hg.rules _ (by simp) (by simp)
  constructor
  · intro h
    have := hs _ h
    have he : ((a.toNat : Nat) : Int) = a := by omega
    rwa [he] at this
  · intro h
    induction h with
    | mk r hr _ hp ih =>
      refine hc r hr ?_
      unfold allPos
      rw [List.all_eq_true]
      exact fun x hx => ih x hx ((hg.rules r hr).pos x hx).1

/-! ### What a simplification leaves -/
/-- A step, as sets of rules: 'r' goes, and 'more' comes in its place. -/
theorem step_sets {g : Prog} {j k : Nat} (hj : j < 5) (hk : k < g.rules.length) (h : 0 < (goneL g (followsL g) ((j : Int) + 1) g.rules[k]).length) :
    (∀ q, q ∈ (doL g ((j : Int) + 1, (k : Int))).1.rules → q ∈ g.rules ∨ q ∈ moreL ((j : Int) + 1) g.rules[k] (goneL g (followsL g) ((j : Int) + 1) g.rules[k])) ∧
    (∀ q, q ∈ moreL ((j : Int) + 1) g.rules[k] (goneL g (followsL g) ((j : Int) + 1) g.rules[k]) → q ∈ (doL g ((j : Int) + 1, (k : Int))).1.rules) ∧
    (∀ q ∈ g.rules, q ≠ g.rules[k] → q ∈ (doL g ((j : Int) + 1, (k : Int))).1.rules) := by
  rw [doL_can hj hk h]
  refine ⟨fun q hq => ?_, fun q hq => ?_, fun q hq hne => ?_⟩
  · have := rulesL_has.1 hq
    rw [List.mem_append, List.mem_append] at this
    rcases this with (h1 | h1) | h1
    · exact .inl (List.mem_of_mem_take h1)
    · exact .inl (List.mem_of_mem_drop h1)
    · exact .inr h1
  · exact rulesL_has.2 (List.mem_append_right _ hq)
  · refine rulesL_has.2 (List.mem_append_left _ ?_)
    rw [← List.take_append_drop k g.rules, List.mem_append, List.drop_eq_getElem_cons hk, List.mem_cons] at hq
    rw [List.mem_append]
    rcases hq with h1 | h1 | h1
    · exact .inl h1
    · exact absurd h1 hne
    · exact .inr h1

theorem withoutL_mem {l m : List Int} {x : Int} : x ∈ withoutL l m ↔ x ∈ l ∧ ¬ x ∈ m := by
  unfold withoutL inB; simp [List.mem_filter]

/-- The kinds, one by one: what it is of, and what comes of it. -/
structure StepAt (rs rs' : List Rule) (r : Rule) : Prop where
  mem : r ∈ rs
  old : ∀ q ∈ rs', q ∈ rs ∨ (q.head = r.head ∧ (∀ x ∈ q.pos, x ∈ r.pos) ∧ (∀ x ∈ q.neg, x ∈ r.neg))
  keep : ∀ q ∈ rs, q ≠ r → q ∈ rs'

inductive StepK (rs rs' : List Rule) (r : Rule) : Prop
  | neg (gone : List Int) (h1 : ∀ x ∈ gone, x ∈ r.neg ∧ ¬ ∃ q ∈ rs, q.head = x) (h2 : ∀ q, q ∈ rs' → q ∈ rs ∨ q = ⟨r.head, r.pos, withoutL r.neg gone⟩) (h3 : (⟨r.head, r.pos, withoutL r.neg gone⟩ : Rule) ∈ rs')
  | pos (gone : List Int) (h1 : ∀ x ∈ gone, x ∈ r.pos ∧ ∃ q ∈ rs, q.head = x ∧ q.pos = [] ∧ q.neg = []) (h0 : r.pos ≠ []) (h2 : ∀ q, q ∈ rs' → q ∈ rs ∨ q = ⟨r.head, withoutL r.pos gone, r.neg⟩) (h3 : (⟨r.head, withoutL r.pos gone, r.neg⟩ : Rule) ∈ rs')
  | fact (x : Int) (h0 : x ∈ r.neg) (h1 : ∃ q ∈ rs, q.head = x ∧ q.pos = [] ∧ q.neg = []) (h2 : ∀ q, q ∈ rs' → q ∈ rs)
  | fol (x : Int) (h0 : x ∈ r.pos) (h1 : ¬ Fol rs x) (h2 : ∀ q, q ∈ rs' → q ∈ rs)

theorem step_kinds {g : Prog} (hg : GoodP g) {s : Int × Int} (hs : s ∈ canL g) : ∃ r ∈ g.rules, (∀ q ∈ g.rules, q ≠ r → q ∈ (doL g s).1.rules) ∧ StepK g.rules (doL g s).1.rules r := by
  obtain ⟨j, k, hk, hj, rfl, h⟩ := mem_canL.1 hs
  obtain ⟨h1, h2, h3⟩ := step_sets hj hk h
  refine ⟨g.rules[k], List.getElem_mem hk, h3, ?_⟩
  obtain ⟨x, hx⟩ := List.exists_mem_of_length_pos h
  have hx' := goneL_mem.1 hx
  have hgood := hg.rules _ (List.getElem_mem hk)
  rcases (show j = 0 ∨ j = 1 ∨ j = 2 ∨ j = 3 ∨ j = 4 by omega) with rfl | rfl | rfl | rfl | rfl
  · refine .neg (goneL g (followsL g) ((0 : Nat) + 1 : Int) g.rules[k]) (fun y hy => ?_) (fun q hq => ?_) (h2 _ (by simp [moreL]))
    · have := goneL_mem.1 hy
      simp only [sideL, isGone] at this
      refine ⟨by simpa using this.1, fun hc => ?_⟩
      have := this.2
      rw [rulesB_iff.2 hc] at this
      simp at this
    · rcases h1 q hq with h4 | h4
      · exact .inl h4
      · right; simpa [moreL] using h4
  · simp only [sideL, isGone] at hx'
    refine .fact x (by simpa using hx'.1) (factB_iff.1 (by simpa using hx'.2)) fun q hq => ?_
    rcases h1 q hq with h4 | h4
    · exact h4
    · simp [moreL] at h4
  · refine .pos (goneL g (followsL g) ((2 : Nat) + 1 : Int) g.rules[k]) (fun y hy => ?_) ?_ (fun q hq => ?_) (h2 _ (by simp [moreL]))
    · have := goneL_mem.1 hy
      simp only [sideL, isGone] at this
      exact ⟨by simpa using this.1, factB_iff.1 (by simpa using this.2)⟩
    · intro hn
      have := hx'.1
      simp [sideL, hn] at this
    · rcases h1 q hq with h4 | h4
      · exact .inl h4
      · right; simpa [moreL] using h4
  · simp only [sideL, isGone] at hx'
    refine .fol x (by simpa using hx'.1) (fun hf => ?_) fun q hq => ?_
    · have := hx'.2
      rw [rulesB_iff.2 (Der.has hf)] at this
      simp at this
    · rcases h1 q hq with h4 | h4
      · exact h4
      · simp [moreL] at h4
  · simp only [sideL, isGone] at hx'
    have hxp : x ∈ g.rules[k].pos := by simpa using hx'.1
    refine .fol x hxp (fun hf => ?_) fun q hq => ?_
    · have := hx'.2
      rw [(follows_iff hg (hgood.pos x hxp).1).2 hf] at this
      simp at this
    · rcases h1 q hq with h4 | h4
      · exact h4
      · simp [moreL] at h4

/-- Two programs whose answers are the same at all that either of them can come to. -/
theorem same_of {rs rs' : List Rule} (C : (Int → Prop) → Prop) (hC : ∀ I, C I → Der rs I = Der rs' I) (h1 : ∀ J, C (Der rs J)) (h2 : ∀ J, C (Der rs' J)) : Tru rs' = Tru rs ∧ May rs' = May rs := by
  have key : ∀ {rs rs' : List Rule}, (∀ I, C I → Der rs I = Der rs' I) → (∀ J, C (Der rs J)) → ∀ a, Tru rs' a → Tru rs a := by
    intro rs rs' hC h1 a ha
    refine ha.le fun y hy => ?_
    have c1 : C (Tru rs) := by rw [Tru.eq]; exact h1 _
    have c2 : C (May rs) := h1 _
    rw [← hC _ c1, ← May.eq, ← hC _ c2, ← Tru.eq] at hy
    exact hy
  have ht : Tru rs' = Tru rs := funext fun a => propext ⟨key hC h1 a, key (fun I h => (hC I h).symm |>.trans rfl) h2 a⟩
  refine ⟨ht, ?_⟩
  have c1 : C (Tru rs) := by rw [Tru.eq]; exact h1 _
  rw [May.eq, ht, ← hC _ c1]; rfl
end Go.Proofs.Ytdbennmbbmoflaa
