/-
  Layer 18, plain facts: no simplification changes the model; one end; its truth is the model.
-/
import Derived.Test.YtdbennmbbmoflaaResO
namespace Go.Proofs.Ytdbennmbbmoflaa
open Go Go.RowKit

/-! ### No simplification changes the model -/
theorem Der.rule {rs : List Rule} {I : Int → Prop} {r : Rule} (hr : r ∈ rs) (hn : ∀ x ∈ r.neg, ¬ I x) (hp : ∀ x ∈ r.pos, Der rs I x) : Der rs I r.head := .mk r hr hn hp

theorem der_eq {rs rs' : List Rule} {I : Int → Prop}
    (h1 : ∀ r ∈ rs, (∀ x ∈ r.neg, ¬ I x) → (∀ x ∈ r.pos, Der rs I x) → (∀ x ∈ r.pos, Der rs' I x) → Der rs' I r.head)
    (h2 : ∀ r ∈ rs', (∀ x ∈ r.neg, ¬ I x) → (∀ x ∈ r.pos, Der rs' I x) → (∀ x ∈ r.pos, Der rs I x) → Der rs I r.head) : Der rs I = Der rs' I :=
  funext fun _ => propext ⟨fun h => h.sub h1, fun h => h.sub h2⟩

def FactIn (rs : List Rule) (x : Int) : Prop := ∃ q ∈ rs, q.head = x ∧ q.pos = [] ∧ q.neg = []
theorem FactIn.der {rs : List Rule} {x : Int} (h : FactIn rs x) (I : Int → Prop) : Der rs I x := by
  obtain ⟨q, hq, rfl, h1, h2⟩ := h
  exact .mk q hq (by simp [h2]) (by simp [h1])

theorem fol_of {rs : List Rule} {I : Int → Prop} {x : Int} (h : Der rs I x) : Fol rs x := h.anti fun _ h => h.elim

theorem kind_model {rs rs' : List Rule} {r : Rule} (hr : r ∈ rs) (hkeep : ∀ q ∈ rs, q ≠ r → q ∈ rs') (hk : StepK rs rs' r) : Tru rs' = Tru rs ∧ May rs' = May rs := by
  cases hk with
  | neg gone h1 h2 h3 =>
    have hno : ∀ x ∈ gone, ∀ J, ¬ Der rs J x := fun x hx J hd => (h1 x hx).2 hd.has
    have hno' : ∀ x ∈ gone, ∀ J, ¬ Der rs' J x := fun x hx J hd => by
      obtain ⟨q, hq, he⟩ := hd.has
      rcases h2 q hq with h | h
      · exact (h1 x hx).2 ⟨q, h, he⟩
      · subst h; exact (h1 x hx).2 ⟨r, hr, he⟩
    refine same_of (fun I => ∀ x ∈ gone, ¬ I x) (fun I hI => der_eq (fun q hq hn _ hp => ?_) (fun q hq hn _ hp => ?_)) (fun J x hx => hno x hx J) (fun J x hx => hno' x hx J)
    · by_cases he : q = r
      · subst he
        exact Der.rule (r := ⟨q.head, q.pos, withoutL q.neg gone⟩) h3 (fun x hx => hn x (withoutL_mem.1 hx).1) hp
      · exact Der.rule (hkeep q hq he) hn hp
    · rcases h2 q hq with h | h
      · exact Der.rule h hn hp
      · subst h
        refine Der.rule (r := r) hr (fun x hx hx' => ?_) hp
        by_cases hg : x ∈ gone
        · exact hI x hg hx'
        · exact hn x (withoutL_mem.2 ⟨hx, hg⟩) hx'
  | pos gone h1 h0 h2 h3 =>
    refine same_of (fun _ => True) (fun I _ => der_eq (fun q hq hn _ hp => ?_) (fun q hq hn _ hp => ?_)) (fun _ => trivial) (fun _ => trivial)
    · by_cases he : q = r
      · subst he
        exact Der.rule (r := ⟨q.head, withoutL q.pos gone, q.neg⟩) h3 hn fun x hx => hp x (withoutL_mem.1 hx).1
      · exact Der.rule (hkeep q hq he) hn hp
    · rcases h2 q hq with h | h
      · exact Der.rule h hn hp
      · subst h
        refine Der.rule (r := r) hr hn fun x hx => ?_
        by_cases hg : x ∈ gone
        · exact FactIn.der (h1 x hg).2 I
        · exact hp x (withoutL_mem.2 ⟨hx, hg⟩)
  | fact x h0 h1 h2 =>
    have hf : FactIn rs x := h1
    have hf' : FactIn rs' x := by
      obtain ⟨q, hq, h3, h4, h5⟩ := h1
      refine ⟨q, hkeep q hq fun e => ?_, h3, h4, h5⟩
      subst e; rw [h5] at h0; cases h0
    refine same_of (fun I => I x) (fun I hI => der_eq (fun q hq hn _ hp => ?_) (fun q hq hn _ hp => Der.rule (h2 q hq) hn hp)) (fun J => hf.der J) (fun J => hf'.der J)
    by_cases he : q = r
    · subst he; exact absurd hI (hn x h0)
    · exact Der.rule (hkeep q hq he) hn hp
  | fol x h0 h1 h2 =>
    refine same_of (fun _ => True) (fun I _ => der_eq (fun q hq hn hp0 hp => ?_) (fun q hq hn _ hp => Der.rule (h2 q hq) hn hp)) (fun _ => trivial) (fun _ => trivial)
    by_cases he : q = r
    · subst he; exact absurd (fol_of (hp0 x h0)) h1
    · exact Der.rule (hkeep q hq he) hn hp

theorem step_model {g : Prog} (hg : GoodP g) {s : Int × Int} (hs : s ∈ canL g) : Tru (doL g s).1.rules = Tru g.rules ∧ May (doL g s).1.rules = May g.rules := by
  obtain ⟨r, hr, hk, h⟩ := step_kinds hg hs
  exact kind_model hr hk h

/-! ### What is left -/
open Classical in
noncomputable def leftOf (T M : Int → Prop) (r : Rule) : Rule := ⟨r.head, r.pos.filter fun x => decide (¬ T x), r.neg.filter fun x => decide (M x)⟩
def okOf (T M : Int → Prop) (r : Rule) : Prop := (∀ x ∈ r.pos, M x) ∧ ∀ x ∈ r.neg, ¬ T x
/-- The rules that are left, as a set. -/
def Left (T M : Int → Prop) (rs : List Rule) (q : Rule) : Prop := ∃ r ∈ rs, okOf T M r ∧ leftOf T M r = q

theorem filter_without {l gone : List Int} {p : Int → Bool} (h : ∀ x ∈ gone, x ∈ l → p x = false) : (withoutL l gone).filter p = l.filter p := by
  unfold withoutL
  rw [List.filter_filter]
  refine List.filter_congr fun x hx => ?_
  by_cases hg : x ∈ gone
  · rw [h x hg hx]; simp
  · have : inB gone x = false := by unfold inB; simpa using hg
    rw [this]; simp

theorem kind_left {rs rs' : List Rule} {r : Rule} (hr : r ∈ rs) (hkeep : ∀ q ∈ rs, q ≠ r → q ∈ rs') (hk : StepK rs rs' r) : Left (Tru rs) (May rs) rs' = Left (Tru rs) (May rs) rs := by
  have hmf : ∀ x, May rs x → Fol rs x := fun x h => fol_of h
  have htf : ∀ x, FactIn rs x → Tru rs x := fun x h => Tru.of (h.der _)
  have htm : ∀ x, Tru rs x → May rs x := fun x h => h.may
  funext q
  refine propext ⟨?_, ?_⟩
  · rintro ⟨p, hp, hok, rfl⟩
    cases hk with
    | neg gone h1 h2 h3 =>
      rcases h2 p hp with h | h
      · exact ⟨p, h, hok, rfl⟩
      · have hgm : ∀ x ∈ gone, ¬ May rs x := fun x hx hm => (h1 x hx).2 (hmf x hm).has
        subst h
        refine ⟨r, hr, ⟨hok.1, fun x hx ht => ?_⟩, ?_⟩
        · by_cases hg : x ∈ gone
          · exact hgm x hg (htm x ht)
          · exact hok.2 x (withoutL_mem.2 ⟨hx, hg⟩) ht
        · unfold leftOf
          simp only [Rule.mk.injEq, true_and]
          exact (filter_without fun x hx _ => by simpa using hgm x hx).symm
    | pos gone h1 h0 h2 h3 =>
      rcases h2 p hp with h | h
      · exact ⟨p, h, hok, rfl⟩
      · have hgt : ∀ x ∈ gone, Tru rs x := fun x hx => htf x (h1 x hx).2
        subst h
        refine ⟨r, hr, ⟨fun x hx => ?_, hok.2⟩, ?_⟩
        · by_cases hg : x ∈ gone
          · exact htm x (hgt x hg)
          · exact hok.1 x (withoutL_mem.2 ⟨hx, hg⟩)
        · unfold leftOf
          simp only [Rule.mk.injEq, true_and, and_true]
          exact (filter_without fun x hx _ => by simpa using hgt x hx).symm
    | fact x h0 h1 h2 => exact ⟨p, h2 p hp, hok, rfl⟩
    | fol x h0 h1 h2 => exact ⟨p, h2 p hp, hok, rfl⟩
  · rintro ⟨p, hp, hok, rfl⟩
    by_cases he : p = r
    · subst he
      cases hk with
      | neg gone h1 h2 h3 =>
        have hgm : ∀ x ∈ gone, ¬ May rs x := fun x hx hm => (h1 x hx).2 (hmf x hm).has
        refine ⟨_, h3, ⟨hok.1, fun x hx => hok.2 x (withoutL_mem.1 hx).1⟩, ?_⟩
        unfold leftOf
        simp only [Rule.mk.injEq, true_and]
        exact filter_without fun x hx _ => by simpa using hgm x hx
      | pos gone h1 h0 h2 h3 =>
        have hgt : ∀ x ∈ gone, Tru rs x := fun x hx => htf x (h1 x hx).2
        refine ⟨_, h3, ⟨fun x hx => hok.1 x (withoutL_mem.1 hx).1, hok.2⟩, ?_⟩
        unfold leftOf
        simp only [Rule.mk.injEq, true_and, and_true]
        exact filter_without fun x hx _ => by simpa using hgt x hx
      | fact x h0 h1 h2 => exact absurd (htf x h1) (hok.2 x h0)
      | fol x h0 h1 h2 => exact absurd (hmf x (hok.1 x h0)) h1
    · exact ⟨p, hkeep p hp he, hok, rfl⟩

/-! ### At the end -/
theorem end_rules {g : Prog} (hg : GoodP g) (h : canL g = []) : ∀ r ∈ g.rules, (∀ x ∈ r.neg, (∃ q ∈ g.rules, q.head = x) ∧ ¬ FactIn g.rules x) ∧ ∀ x ∈ r.pos, ¬ FactIn g.rules x ∧ Fol g.rules x := by
  intro r hr
  obtain ⟨k, hk, rfl⟩ := List.mem_iff_getElem.1 hr
  have hgd := hg.rules _ hr
  have key : ∀ j : Nat, j < 5 → ∀ x ∈ sideL ((j : Int) + 1) g.rules[k], isGone g (followsL g) ((j : Int) + 1) x = false := by
    intro j hj x hx
    by_cases hi : isGone g (followsL g) ((j : Int) + 1) x = true
    · have : ((j : Int) + 1, (k : Int)) ∈ canL g := mem_canL.2 ⟨j, k, hk, hj, rfl, List.length_pos_of_mem (goneL_mem.2 ⟨hx, hi⟩)⟩
      rw [h] at this; cases this
    · simpa using hi
  refine ⟨fun x hx => ⟨?_, fun hf => ?_⟩, fun x hx => ⟨fun hf => ?_, ?_⟩⟩
  · have := key 0 (by omega) x (by simpa [sideL] using hx)
    simp only [isGone] at this
    exact rulesB_iff.1 (by simpa using this)
  · have := key 1 (by omega) x (by simpa [sideL] using hx)
    simp only [isGone] at this
    rw [factB_iff.2 hf] at this
    simp at this
  · have := key 2 (by omega) x (by simpa [sideL] using hx)
    simp only [isGone] at this
    rw [factB_iff.2 hf] at this
    simp at this
  · have := key 4 (by omega) x (by simpa [sideL] using hx)
    simp only [isGone] at this
    exact (follows_iff hg (hgd.pos x hx).1).1 (by simpa using this)

theorem fol_der {rs : List Rule} {I : Int → Prop} (hn : ∀ r ∈ rs, ∀ x ∈ r.neg, ¬ I x) {y : Int} (h : Fol rs y) : Der rs I y := by
  unfold Fol at h
  induction h with
  | mk r hr _ _ ih => exact .mk r hr (hn r hr) ih

theorem end_model {g : Prog} (hg : GoodP g) (h : canL g = []) : Tru g.rules = FactIn g.rules ∧ May g.rules = fun x => ∃ q ∈ g.rules, q.head = x := by
  have he := end_rules hg h
  refine Tru.eq_of ?_ ?_ fun a ha => Tru.of (ha.der _)
  · funext a
    refine propext ⟨fun hd => hd.has, ?_⟩
    rintro ⟨q, hq, rfl⟩
    have hn : ∀ r ∈ g.rules, ∀ x ∈ r.neg, ¬ FactIn g.rules x := fun r hr x hx => ((he r hr).1 x hx).2
    exact .mk q hq (hn q hq) fun x hx => fol_der hn ((he q hq).2 x hx).2
  · funext a
    refine propext ⟨fun hd => ?_, fun hf => hf.der _⟩
    induction hd with
    | mk r hr hn _ ih =>
      refine ⟨r, hr, rfl, ?_, ?_⟩
      · rcases hp : r.pos with _ | ⟨x, l⟩
        · rfl
        · have hx : x ∈ r.pos := by rw [hp]; simp
          exact absurd (ih x hx) ((he r hr).2 x hx).1
      · rcases hp : r.neg with _ | ⟨x, l⟩
        · rfl
        · have hx : x ∈ r.neg := by rw [hp]; simp
          exact absurd ((he r hr).1 x hx).1 (hn x hx)

theorem end_left {g : Prog} (hg : GoodP g) (h : canL g = []) (q : Rule) : Left (Tru g.rules) (May g.rules) g.rules q ↔ q ∈ g.rules := by
  have he := end_rules hg h
  obtain ⟨ht, hm⟩ := end_model hg h
  have hok : ∀ r ∈ g.rules, okOf (Tru g.rules) (May g.rules) r ∧ leftOf (Tru g.rules) (May g.rules) r = r := by
    intro r hr
    have hp : ∀ x ∈ r.pos, May g.rules x ∧ ¬ Tru g.rules x := fun x hx => by
      rw [hm, ht]; exact ⟨((he r hr).2 x hx).2.has, ((he r hr).2 x hx).1⟩
    have hn : ∀ x ∈ r.neg, May g.rules x ∧ ¬ Tru g.rules x := fun x hx => by
      rw [hm, ht]; exact (he r hr).1 x hx
    refine ⟨⟨fun x hx => (hp x hx).1, fun x hx => (hn x hx).2⟩, ?_⟩
    unfold leftOf
    rw [List.filter_eq_self.2 fun x hx => by simpa using (hp x hx).2, List.filter_eq_self.2 fun x hx => by simpa using (hn x hx).1]
  constructor
  · rintro ⟨r, hr, _, rfl⟩
    rw [(hok r hr).2]; exact hr
  · exact fun hq => ⟨q, hq, (hok q hq).1, (hok q hq).2⟩

/-! ### All of them -/
/-- What each simplification keeps holds behind all of them. -/
theorem reduceGo_keeps {P : Prog → Prop} (order : List Int) (hs : ∀ g s, P g → s ∈ canL g → P (doL g s).1) : ∀ (f i : Nat) (g : Prog), P g → P (reduceGo order f i g)
  | 0, _, _, h => h
  | f + 1, i, g, h => by
    unfold reduceGo
    split
    · exact h
    · next hc => exact reduceGo_keeps order hs f (i + 1) _ (hs _ _ h (stepL_mem g order i hc))

theorem reduceGo_end (order : List Int) : ∀ (f i : Nat) (g : Prog), sizeP g < f → canL (reduceGo order f i g) = []
  | 0, _, _, h => by omega
  | f + 1, i, g, h => by
    unfold reduceGo
    split
    · next hc => exact List.eq_nil_of_length_eq_zero hc
    · next hc =>
      refine reduceGo_end order f (i + 1) _ ?_
      have := doL_less (stepL_mem g order i hc)
      unfold stepL
      omega
theorem reduce_end (g : Prog) (order : List Int) : canL (reduceL g order) = [] := reduceGo_end order _ _ _ (Nat.lt_succ_self _)
theorem reduce_own {g : Prog} (h : canL g = []) (order : List Int) : reduceL g order = g := by
  unfold reduceL reduceGo
  rw [if_pos (by rw [h]; rfl)]

/-- What is kept of a program, whatever is done: its model, what is left, its atoms, the order of its rules. -/
structure SameP (g h : Prog) : Prop where
  good : GoodP h
  sort : SortR h.rules
  atoms : h.atoms = g.atoms
  tru : Tru h.rules = Tru g.rules
  may : May h.rules = May g.rules
  left : Left (Tru g.rules) (May g.rules) h.rules = Left (Tru g.rules) (May g.rules) g.rules
theorem SameP.refl {g : Prog} (h : GoodP g) (hs : SortR g.rules) : SameP g g := ⟨h, hs, rfl, rfl, rfl, rfl⟩
theorem SameP.step {g h : Prog} (H : SameP g h) {s : Int × Int} (hs : s ∈ canL h) : SameP g (doL h s).1 := by
  obtain ⟨r, hr, hk, hkind⟩ := step_kinds H.good hs
  obtain ⟨h1, h2⟩ := kind_model hr hk hkind
  have h3 := kind_left hr hk hkind
  rw [H.tru, H.may] at h3
  exact ⟨doL_good H.good hs, doL_sort H.sort _, by rw [doL_atoms]; exact H.atoms, h1.trans H.tru, h2.trans H.may, h3.trans H.left⟩
theorem reduce_same {g : Prog} (hg : GoodP g) (hs : SortR g.rules) (order : List Int) : SameP g (reduceL g order) :=
  reduceGo_keeps order (fun _ _ H hs => H.step hs) _ _ _ (SameP.refl hg hs)

theorem prog_ext {g h : Prog} (h1 : g.atoms = h.atoms) (h2 : g.rules = h.rules) : g = h := by
  cases g; cases h; simp only at h1 h2; subst h1 h2; rfl

/-- **One end.** -/
theorem one_end {g : Prog} (hg : GoodP g) (hs : SortR g.rules) (o1 o2 : List Int) : reduceL g o1 = reduceL g o2 := by
  have H1 := reduce_same hg hs o1
  have H2 := reduce_same hg hs o2
  refine prog_ext (H1.atoms.trans H2.atoms.symm) (SortR.ext H1.sort H2.sort fun r => ?_)
  have e1 := end_left H1.good (reduce_end g o1) r
  have e2 := end_left H2.good (reduce_end g o2) r
  rw [H1.tru, H1.may, H1.left] at e1
  rw [H2.tru, H2.may, H2.left] at e2
  exact e1.symm.trans e2

/-! ### The truth at the end -/
theorem truth_end {g : Prog} (hg : GoodP g) (hs : SortR g.rules) (order : List Int) {a : Int} :
    (truthOf (reduceL g order) a = 2 ↔ Tru g.rules a) ∧ (truthOf (reduceL g order) a = 0 ↔ ¬ May g.rules a) := by
  have H := reduce_same hg hs order
  obtain ⟨h1, h2⟩ := end_model H.good (reduce_end g order)
  rw [H.tru] at h1
  rw [H.may] at h2
  rw [h1, h2]
  have hf : factB (reduceL g order) a = true ↔ FactIn (reduceL g order).rules a := factB_iff
  have hr : rulesB (reduceL g order) a = true ↔ ∃ q ∈ (reduceL g order).rules, q.head = a := rulesB_iff
  rw [← hf]
  show _ ∧ (_ ↔ ¬ ∃ q ∈ (reduceL g order).rules, q.head = a)
  rw [← hr]
  unfold truthOf
  have hfr : factB (reduceL g order) a = true → rulesB (reduceL g order) a = true := fun h => by
    obtain ⟨q, hq, he, _⟩ := factB_iff.1 h
    exact rulesB_iff.2 ⟨q, hq, he⟩
  cases h3 : factB (reduceL g order) a <;> cases h4 : rulesB (reduceL g order) a <;> simp_all
end Go.Proofs.Ytdbennmbbmoflaa
