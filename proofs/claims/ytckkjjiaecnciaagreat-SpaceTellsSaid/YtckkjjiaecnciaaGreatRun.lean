/-
  A region that draws its order, by an invariant: one proof for each operation, none for each order.
  A region that draws its order, step by step: one operation alone; two that come in either order, met again behind them.
  A region that draws its order: operations each of which gives a value of which something lasting holds, in whatever order they come up, each shown once.
  A region whose operations come in whatever order: the law of text Flow from the region's start.
  A region that draws its order and ends with an operation that waits for all others (the store of an assignment): the others with a held fact, then that one.
-/
import Derived.OrdersHeld
import Derived.Deep.RegionHeld3
import Derived.Lib.Hide
import Derived.Below
namespace Go.Proofs.YtckkjjiaecnciaaGreat
section
section
open Go

/-- How many operations have not come up. -/
def unlisted (ops : Array Oper) (listed : Array Bool) : List Nat := (List.range ops.size).filter fun i => !listed.getD i true

theorem ready_unlisted {md : Region.Mode} {ops : Array Oper} {listed : Array Bool} {i : Nat} (h : i ∈ Region.ready md ops listed) : i ∈ unlisted ops listed := by
  unfold Region.ready at h
  unfold unlisted
  rw [List.mem_filter] at h ⊢
  refine ⟨h.1, ?_⟩
  have := h.2
  rw [Bool.and_eq_true] at this
  exact this.1

theorem filter_len_lt {p q : Nat → Bool} : ∀ {l : List Nat} {i : Nat}, i ∈ l → p i = true → q i = false → (∀ j, q j = true → p j = true) → (l.filter q).length < (l.filter p).length := by
  intro l
  induction l with
  | nil => intro i hi; cases hi
  | cons x l ih =>
    intro i hi hp hq hm
    have hle : ∀ l : List Nat, (l.filter q).length ≤ (l.filter p).length := by
      intro l
      induction l with
      | nil => simp
      | cons y l ih =>
        by_cases hy : q y = true
        · rw [List.filter_cons_of_pos hy, List.filter_cons_of_pos (hm y hy), List.length_cons, List.length_cons]; omega
        · rw [List.filter_cons_of_neg hy]
          by_cases hy' : p y = true
          · rw [List.filter_cons_of_pos hy', List.length_cons]; omega
          · rw [List.filter_cons_of_neg hy']; exact ih
    rcases List.mem_cons.1 hi with rfl | hi
    · rw [List.filter_cons_of_pos hp, List.filter_cons_of_neg (by rw [hq]; decide), List.length_cons]
      have := hle l
      omega
    · have h1 := ih hi hp hq hm
      by_cases hy : q x = true
      · rw [List.filter_cons_of_pos hy, List.filter_cons_of_pos (hm x hy), List.length_cons, List.length_cons]; omega
      · rw [List.filter_cons_of_neg hy]
        by_cases hy' : p x = true
        · rw [List.filter_cons_of_pos hy', List.length_cons]; omega
        · rw [List.filter_cons_of_neg hy']; exact h1

theorem unlisted_less {ops : Array Oper} {listed : Array Bool} {i : Nat} (h : i ∈ unlisted ops listed) : (unlisted ops (listed.setIfInBounds i true)).length < (unlisted ops listed).length := by
  unfold unlisted at *
  rw [List.mem_filter] at h
  refine filter_len_lt h.1 h.2 ?_ ?_
  · by_cases hi : i < listed.size
    · simp [hi]
    · have := h.2
      simp [Array.getElem?_eq_none (Nat.le_of_not_lt hi)] at this
  · intro j hj
    by_cases hji : i = j
    · subst hji; exact h.2
    · rw [getD_set_ne true hji] at hj; exact hj

/-- **By an invariant**: of what has come up, of the frame, of the world. -/
theorem wpAnyH_inv {P : Program} {md : Region.Mode} {ops : Array Oper} {Q : Exit → Act → World → Prop} {S : World → Prop} {Inv : Array Bool → Act → World → Prop}
    (hS : ∀ listed a w, Inv listed a w → S w)
    (hs : ∀ listed a w, Inv listed a w → ∀ i, i ∈ Region.ready md ops listed → wpOp P ops Q i (Inv (listed.setIfInBounds i true)) a w)
    (he : ∀ listed a w, Inv listed a w → Region.ready md ops listed = [] → Q .normal a w) :
    ∀ (fuel : Nat) (listed : Array Bool) (a : Act) (w : World), (unlisted ops listed).length ≤ fuel → Inv listed a w → wpAnyH P md ops Q S fuel listed a w := by
  intro fuel
  induction fuel with
  | zero =>
    intro listed a w hf hI
    have h0 : Region.ready md ops listed = [] := by
      rw [List.eq_nil_iff_forall_not_mem]
      intro i hi
      have := List.length_pos_of_mem (ready_unlisted hi)
      omega
    exact ⟨h0, he _ _ _ hI h0⟩
  | succ fuel ih =>
    intro listed a w hf hI
    refine ⟨he _ _ _ hI, fun i hi => ?_⟩
    refine wpOp_mono (fun a' w' hI' => ⟨hS _ _ _ hI', ih _ _ _ ?_ hI'⟩) (hs _ _ _ hI i hi)
    have := unlisted_less (ready_unlisted hi)
    omega

/-- One operation that is carried out. -/
theorem wpOp_run {P : Program} {ops : Array Oper} {Q : Exit → Act → World → Prop} {i : Nat} {o : Oper} {K : Act → World → Prop} {a : Act} {w : World} (ho : ops[i]? = some o)
    (hw : Region.wanted o (yielded ops a.tmps) = true) (h : o.wp P a w K Q) : wpOp P ops Q i K a w := by
  unfold wpOp
  simp only [ho, hw, if_true]
  exact .inl h
end
section
open Go Go.RowKit

/-- One question for a take in place of three. -/
def takeOK (md : Region.Mode) (ops : Array Oper) (listed : Array Bool) (i : Nat) : Bool := Region.free md ops listed i && (Region.ready md ops listed).contains i

section
variable {P : Program} {md : Region.Mode} {ops : Array Oper} {Q : Exit → Act → World → Prop} {S : World → Prop}
theorem wpAnyH_take1 {i : Nat} {oi : Oper} {v : Value} {fuel : Nat} {listed : Array Bool} {a : Act} {w : World} (hs : Region.noSelect ops = true) (hi : ops[i]? = some oi)
    (hf : takeOK md ops listed i = true) (hQ : ∀ c a w, Q (.panic c) (a.put oi.dst v) w → Q (.panic c) a w) (hy : YieldsIf P ops S oi v a) (hS : S w)
    (h : wpAnyH P md ops Q S fuel (listed.setIfInBounds i true) (a.put oi.dst v) w) : wpAnyH P md ops Q S (fuel + 1) listed a w := by
  unfold takeOK at hf
  rw [Bool.and_eq_true] at hf
  exact wpAnyH_take hi hs hf.1 hf.2 hQ hy hS h

/-- One operation alone. -/
theorem wpAnyH_one {i : Nat} {o : Oper} {fuel : Nat} {listed : Array Bool} {a : Act} {w : World} (hr : Region.ready md ops listed = [i]) (ho : ops[i]? = some o)
    (hw : Region.wanted o (yielded ops a.tmps) = true)
    (h : ∀ K, Hid (∀ a' w', S w' → (S w' → wpAnyH P md ops Q S fuel (listed.setIfInBounds i true) a' w') → K a' w') → o.wp P a w K Q) : wpAnyH P md ops Q S (fuel + 1) listed a w := by
  refine wpAnyH_all hr (by simp) fun k hk => ?_
  obtain rfl := List.mem_singleton.1 hk
  exact wpOp_run ho hw (h _ (Lib.hid fun a' w' h1 h2 => ⟨h1, h2 h1⟩))

/-- Two of which either may come up now. -/
theorem wpAnyH_fork {i j : Nat} {oi oj : Oper} {fuel : Nat} {listed : Array Bool} {a : Act} {w : World} (hr : Region.ready md ops listed = [i, j]) (hoi : ops[i]? = some oi) (hoj : ops[j]? = some oj)
    (wi : Region.wanted oi (yielded ops a.tmps) = true) (wj : Region.wanted oj (yielded ops a.tmps) = true)
    (h1 : ∀ K, Hid (∀ a' w', S w' → (S w' → wpAnyH P md ops Q S fuel (listed.setIfInBounds i true) a' w') → K a' w') → oi.wp P a w K Q)
    (h2 : ∀ K, Hid (∀ a' w', S w' → (S w' → wpAnyH P md ops Q S fuel (listed.setIfInBounds j true) a' w') → K a' w') → oj.wp P a w K Q) : wpAnyH P md ops Q S (fuel + 1) listed a w := by
  refine wpAnyH_all hr (by simp) fun k hk => ?_
  rw [List.mem_cons, List.mem_singleton] at hk
  rcases hk with rfl | rfl
  · exact wpOp_run hoi wi (h1 _ (Lib.hid fun a' w' h1 h2 => ⟨h1, h2 h1⟩))
  · exact wpOp_run hoj wj (h2 _ (Lib.hid fun a' w' h1 h2 => ⟨h1, h2 h1⟩))

/-- Two that come in either order: they meet again. -/
theorem wpAnyH_two {i j : Nat} {oi oj : Oper} {fuel : Nat} {listed : Array Bool} {a : Act} {w : World}
    (hr : Region.ready md ops listed = [i, j]) (hri : Region.ready md ops (listed.setIfInBounds i true) = [j]) (hrj : Region.ready md ops (listed.setIfInBounds j true) = [i])
    (hij : i ≠ j) (hoi : ops[i]? = some oi) (hoj : ops[j]? = some oj) {di dj : Tmp} (hdd : di ≠ dj)
    (wi : Region.wanted oi (yielded ops a.tmps) = true) (wj : Region.wanted oj (yielded ops a.tmps) = true)
    (wi' : ∀ v, Region.wanted oi (yielded ops (a.put (some dj) v).tmps) = true) (wj' : ∀ v, Region.wanted oj (yielded ops (a.put (some di) v).tmps) = true)
    (A B : Value → World → Prop) (F : Value → Value → World → Prop)
    (h1 : ∀ K, Hid (∀ v w', S w' → A v w' → K (a.put (some di) v) w') → oi.wp P a w K Q)
    (h1' : ∀ v w1, A v w1 → ∀ K, Hid (∀ u w', S w' → F v u w' → K ((a.put (some di) v).put (some dj) u) w') → oj.wp P (a.put (some di) v) w1 K Q)
    (h2 : ∀ K, Hid (∀ u w', S w' → B u w' → K (a.put (some dj) u) w') → oj.wp P a w K Q)
    (h2' : ∀ u w1, B u w1 → ∀ K, Hid (∀ v w', S w' → F v u w' → K ((a.put (some dj) u).put (some di) v) w') → oi.wp P (a.put (some dj) u) w1 K Q)
    (hend : ∀ v u w', S w' → F v u w' → wpAnyH P md ops Q S fuel ((listed.setIfInBounds i true).setIfInBounds j true) ((a.put (some di) v).put (some dj) u) w') :
    wpAnyH P md ops Q S (fuel + 2) listed a w := by
  refine wpAnyH_all hr (by simp) fun k hk => ?_
  rw [List.mem_cons, List.mem_singleton] at hk
  rcases hk with rfl | rfl
  · refine wpOp_run hoi wi (h1 _ (Lib.hid fun v w' hS hA => ⟨hS, ?_⟩))
    refine wpAnyH_all hri (by simp) fun k hk => ?_
    obtain rfl := List.mem_singleton.1 hk
    exact wpOp_run hoj (wj' v) (h1' v w' hA _ (Lib.hid fun u w'' hS' hF => ⟨hS', hend v u w'' hS' hF⟩))
  · refine wpOp_run hoj wj (h2 _ (Lib.hid fun u w' hS hB => ⟨hS, ?_⟩))
    refine wpAnyH_all hrj (by simp) fun k hk => ?_
    obtain rfl := List.mem_singleton.1 hk
    refine wpOp_run hoi (wi' u) (h2' u w' hB _ (Lib.hid fun v w'' hS' hF => ⟨hS', ?_⟩))
    have h := hend v u w'' hS' hF
    rw [Act.put_comm a v u (fun d h1 h2 => hdd (by simp only [Option.some.injEq] at h1 h2; rw [h1, h2])), Array.setIfInBounds_comm _ _ hij] at h
    exact h
end
end
section
open Go Go.RowKit

/-- A frame with the values of some operations put in. -/
def putsL (A : Act) : List Tmp → List Value → Act
  | t :: ts, v :: vs => putsL (A.put (some t) v) ts vs
  | _, _ => A
/-- What has come up. -/
def flagsF (L : Array Bool) : List Nat → List Bool → Array Bool
  | i :: is, b :: bs => flagsF (if b then L.setIfInBounds i true else L) is bs
  | _, _ => L

theorem put_put (A : Act) (t : Tmp) (u v : Value) : (A.put (some t) u).put (some t) v = A.put (some t) v := by
  unfold Act.put
  simp only [Array.setIfInBounds_setIfInBounds]
theorem putsL_put (A : Act) (t : Tmp) (v : Value) : ∀ (ts : List Tmp) (vs : List Value), ¬ t ∈ ts → putsL (A.put (some t) v) ts vs = (putsL A ts vs).put (some t) v
  | [], _, _ => by simp [putsL]
  | _ :: _, [], _ => by simp [putsL]
  | s :: ts, u :: vs, h => by
    simp only [List.mem_cons, not_or] at h
    unfold putsL
    rw [Act.put_comm A v u (fun d h1 h2 => h.1 (by simp only [Option.some.injEq] at h1 h2; rw [h1, h2])), putsL_put _ t v ts vs h.2]
theorem putsL_set : ∀ (A : Act) (ts : List Tmp) (vs : List Value) (k : Nat) (v : Value), ts.Nodup → k < ts.length → k < vs.length → putsL A ts (vs.set k v) = (putsL A ts vs).put (some (ts.getD k 0)) v
  | _, [], _, _, _, _, h, _ => by simp at h
  | _, _ :: _, [], _, _, _, _, h => by simp at h
  | A, t :: ts, u :: vs, 0, v, hn, _, _ => by
    rw [List.nodup_cons] at hn
    simp only [List.set_cons_zero, putsL, List.getD_cons_zero]
    rw [← putsL_put _ t v ts vs hn.1, put_put]
  | A, t :: ts, u :: vs, k + 1, v, hn, h1, h2 => by
    rw [List.nodup_cons] at hn
    simp only [List.set_cons_succ, putsL, List.getD_cons_succ]
    exact putsL_set _ ts vs k v hn.2 (by simpa using h1) (by simpa using h2)
theorem flagsF_set1 (L : Array Bool) (i : Nat) : ∀ (is : List Nat) (bs : List Bool), flagsF (L.setIfInBounds i true) is bs = (flagsF L is bs).setIfInBounds i true
  | [], _ => by simp [flagsF]
  | _ :: _, [] => by simp [flagsF]
  | j :: is, b :: bs => by
    unfold flagsF
    rw [← flagsF_set1 _ i is bs]
    cases b
    · rfl
    · simp only [if_true]
      by_cases h : i = j
      · subst h; rfl
      · rw [Array.setIfInBounds_comm _ _ h]
theorem flagsF_set : ∀ (L : Array Bool) (is : List Nat) (bs : List Bool) (k : Nat), k < is.length → k < bs.length → flagsF L is (bs.set k true) = (flagsF L is bs).setIfInBounds (is.getD k 0) true
  | _, [], _, _, h, _ => by simp at h
  | _, _ :: _, [], _, _, h => by simp at h
  | L, i :: is, b :: bs, 0, _, _ => by
    simp only [List.set_cons_zero, flagsF, List.getD_cons_zero, if_true]
    cases b
    · simp only [Bool.false_eq_true, if_false]; exact flagsF_set1 _ _ _ _
    · simp only [if_true]
      rw [flagsF_set1]
      simp only [Array.setIfInBounds_setIfInBounds]
  | L, i :: is, b :: bs, k + 1, h1, h2 => by
    simp only [List.set_cons_succ, flagsF, List.getD_cons_succ]
    exact flagsF_set _ is bs k (by simpa using h1) (by simpa using h2)

def bools : Nat → List (List Bool)
  | 0 => [[]]
  | n + 1 => (bools n).flatMap fun l => [false :: l, true :: l]
theorem mem_bools : ∀ (l : List Bool), l ∈ bools l.length
  | [] => by simp [bools]
  | b :: l => by
    simp only [List.length_cons, bools, List.mem_flatMap]
    exact ⟨l, mem_bools l, by cases b <;> simp⟩
/-- The operations that one waits for have come up. -/
def depsOK (deps : List (List Nat)) (done : List Bool) (k : Nat) : Bool := (deps.getD k []).all fun j => done.getD j false
def closedB (deps : List (List Nat)) (done : List Bool) : Bool := (List.range done.length).all fun k => !done.getD k false || depsOK deps done k
def flowOK (md : Region.Mode) (ops : Array Oper) (L : Array Bool) (is : List Nat) (deps : List (List Nat)) : Bool :=
  (bools is.length).all fun done => !closedB deps done || done.all id ||
    (!(Region.ready md ops (flagsF L is done)).isEmpty && (Region.ready md ops (flagsF L is done)).all fun i => (List.range is.length).any fun k => (is.getD k 0 == i) && !done.getD k false && depsOK deps done k)

theorem closed_set {deps : List (List Nat)} {done : List Bool} {k : Nat} (h : closedB deps done = true) (hk : depsOK deps done k = true) : closedB deps (done.set k true) = true := by
  unfold closedB at *
  rw [List.all_eq_true] at *
  have hup : ∀ j, done.getD j false = true → (done.set k true).getD j false = true := by
    intro j hj
    rw [List.getD_eq_getElem?_getD] at *
    rw [List.getElem?_set]
    split
    · split <;> simp_all
    · exact hj
  have hd : ∀ m, depsOK deps done m = true → depsOK deps (done.set k true) m = true := by
    intro m hm
    unfold depsOK at *
    rw [List.all_eq_true] at *
    exact fun j hj => hup j (hm j hj)
  intro m hm
  rw [List.length_set] at hm
  have h1 := h m hm
  by_cases hkm : k = m
  · subst hkm; simp [hd k hk]
  · rw [List.getD_eq_getElem?_getD, List.getElem?_set, if_neg hkm, ← List.getD_eq_getElem?_getD]
    rw [Bool.or_eq_true] at *
    exact h1.imp id (hd m)

section
variable {P : Program} {md : Region.Mode} {ops : Array Oper} {Q : Exit → Act → World → Prop} {S : World → Prop}

def Holds (Ds : List (Value → World → Prop)) (k : Nat) (v : Value) (w : World) : Prop := ∀ D, Ds[k]? = some D → D v w

structure FlowI (W0 : World) (A0 : Act) (L : Array Bool) (is : List Nat) (ts : List Tmp) (deps : List (List Nat)) (Ds : List (Value → World → Prop)) (done : List Bool) (vs : List Value) (w : World) : Prop where
  dlen : done.length = is.length
  vlen : vs.length = is.length
  clo : closedB deps done = true
  bel : Below W0.heap.size W0 w
  has : ∀ k v, done.getD k false = true → vs[k]? = some v → Holds Ds k v w

theorem FlowI.step {W0 : World} {A0 : Act} {L : Array Bool} {is : List Nat} {ts : List Tmp} {deps : List (List Nat)} {Ds : List (Value → World → Prop)} {done : List Bool} {vs : List Value} {w w' : World}
    (hD : ∀ D ∈ Ds, ∀ v w w', D v w → Below w.heap.size w w' → D v w')
    (h : FlowI W0 A0 L is ts deps Ds done vs w) {k : Nat} {v : Value} (hk : depsOK deps done k = true) (hb : Below w.heap.size w w') (hv : Holds Ds k v w') :
    FlowI W0 A0 L is ts deps Ds (done.set k true) (vs.set k v) w' := by
  refine ⟨by rw [List.length_set]; exact h.dlen, by rw [List.length_set]; exact h.vlen, closed_set h.clo hk, h.bel.trans (hb.mono h.bel.size), ?_⟩
  intro m u hm hu
  by_cases hkm : k = m
  · subst hkm
    rw [List.getElem?_set] at hu
    simp only [if_true] at hu
    split at hu
    · simp only [Option.some.injEq] at hu; subst hu; exact hv
    · simp at hu
  · rw [List.getD_eq_getElem?_getD, List.getElem?_set, if_neg hkm, ← List.getD_eq_getElem?_getD] at hm
    rw [List.getElem?_set, if_neg hkm] at hu
    intro D hDk
    exact hD D (List.mem_of_getElem? hDk) _ _ _ (h.has m u hm hu D hDk) hb

theorem count_set {l : List Bool} {k : Nat} (hk : k < l.length) (h : l.getD k false = false) : (l.set k true).count false + 1 = l.count false := by
  induction l generalizing k with
  | nil => simp at hk
  | cons b l ih =>
    cases k with
    | zero =>
      simp only [List.getD_cons_zero] at h
      subst h
      simp
    | succ k =>
      simp only [List.getD_cons_succ] at h
      have := ih (by simpa using hk) h
      simp only [List.set_cons_succ, List.count_cons]
      omega

/-- **Whatever order they come up in.** -/
theorem wpAnyH_flow (W0 : World) (A0 : Act) (L : Array Bool) (is : List Nat) (ts : List Tmp) (deps : List (List Nat)) (Ds : List (Value → World → Prop))
    (hok : flowOK md ops L is deps = true) (hts : ts.length = is.length) (hnd : ts.Nodup)
    (hD : ∀ D ∈ Ds, ∀ v w w', D v w → Below w.heap.size w w' → D v w')
    (hS : ∀ w, Below W0.heap.size W0 w → S w)
    (hstep : ∀ k, k < is.length → ∀ vs w, vs.length = is.length → Below W0.heap.size W0 w → (∀ j ∈ deps.getD k [], ∀ v, vs[j]? = some v → Holds Ds j v w) →
      ∃ o, ops[is.getD k 0]? = some o ∧ Region.wanted o (yielded ops (putsL A0 ts vs).tmps) = true ∧
        ∀ K, Hid (∀ v w', Below w.heap.size w w' → Holds Ds k v w' → K ((putsL A0 ts vs).put (some (ts.getD k 0)) v) w') → o.wp P (putsL A0 ts vs) w K Q)
    {f : Nat} (hend : ∀ vs w, vs.length = is.length → Below W0.heap.size W0 w → (∀ k v, vs[k]? = some v → Holds Ds k v w) → wpAnyH P md ops Q S f (flagsF L is (List.replicate is.length true)) (putsL A0 ts vs) w) :
    ∀ (n : Nat) (done : List Bool) (vs : List Value) (w : World), done.count false = n → FlowI W0 A0 L is ts deps Ds done vs w → wpAnyH P md ops Q S (f + n) (flagsF L is done) (putsL A0 ts vs) w := by
  intro n
  induction n with
  | zero =>
    intro done vs w hn hI
    have hall : done = List.replicate is.length true := by
      rw [← hI.dlen]
      refine List.eq_replicate_of_mem fun b hb => ?_
      cases b
      · exact absurd (List.count_pos_iff.2 hb) (by omega)
      · rfl
    subst hall
    refine hend vs w hI.vlen hI.bel fun k v hk => hI.has k v ?_ hk
    have := (List.getElem?_eq_some_iff.1 hk).1
    rw [hI.vlen] at this
    rw [List.getD_eq_getElem?_getD, List.getElem?_replicate, if_pos this]; rfl
  | succ n ih =>
    intro done vs w hn hI
    have h1 := List.all_eq_true.1 hok done (by rw [← hI.dlen]; exact mem_bools done)
    rw [hI.clo] at h1
    have hna : done.all id = false := by
      cases hc : done.all id
      · rfl
      · rw [List.all_eq_true] at hc
        have : false ∈ done := List.count_pos_iff.1 (by omega)
        exact absurd (hc _ this) (by simp)
    rw [hna] at h1
    simp only [Bool.not_true, Bool.false_or, Bool.or_false, Bool.and_eq_true, List.all_eq_true] at h1
    refine ⟨fun h0 => ?_, fun i hi => ?_⟩
    · rw [h0] at h1; exact absurd h1.1 (by simp)
    · obtain ⟨k, hk, hk'⟩ := List.any_eq_true.1 (h1.2 i hi)
      simp only [Bool.and_eq_true, beq_iff_eq, Bool.not_eq_true'] at hk'
      obtain ⟨⟨rfl, hdk⟩, hdep⟩ := hk'
      rw [List.mem_range] at hk
      have hkd : k < done.length := by rw [hI.dlen]; exact hk
      obtain ⟨o, ho, hw, hwp⟩ := hstep k hk vs w hI.vlen hI.bel fun j hj v hv => hI.has j v (by
        unfold depsOK at hdep
        exact List.all_eq_true.1 hdep j hj) hv
      refine wpOp_run ho hw (hwp _ (Lib.hid fun v w' hb hv => ?_))
      have hI' := hI.step hD hdep hb hv
      refine ⟨hS _ hI'.bel, ?_⟩
      rw [← putsL_set A0 ts vs k v hnd (by rw [hts]; exact hk) (by rw [hI.vlen]; exact hk), ← flagsF_set L is done k hk hkd]
      exact ih _ _ _ (by have := count_set hkd hdk; omega) hI'

theorem len_one {vs : List Value} (h : vs.length = 1) : ∃ a, vs = [a] := by
  match vs, h with
  | [a], _ => exact ⟨a, rfl⟩
theorem len_two {vs : List Value} (h : vs.length = 2) : ∃ a b, vs = [a, b] := by
  match vs, h with
  | [a, b], _ => exact ⟨a, b, rfl⟩
theorem len_three {vs : List Value} (h : vs.length = 3) : ∃ a b c, vs = [a, b, c] := by
  match vs, h with
  | [a, b, c], _ => exact ⟨a, b, c, rfl⟩
theorem len_four {vs : List Value} (h : vs.length = 4) : ∃ a b c d, vs = [a, b, c, d] := by
  match vs, h with
  | [a, b, c, d], _ => exact ⟨a, b, c, d, rfl⟩
theorem len_five {vs : List Value} (h : vs.length = 5) : ∃ a b c d e, vs = [a, b, c, d, e] := by
  match vs, h with
  | [a, b, c, d, e], _ => exact ⟨a, b, c, d, e, rfl⟩
end
end
section
open Go Go.RowKit
theorem flagsF_none : ∀ (L : Array Bool) (is : List Nat) (n : Nat), flagsF L is (List.replicate n false) = L
  | _, [], _ => by simp [flagsF]
  | _, _ :: _, 0 => by simp [flagsF]
  | L, _ :: is, n + 1 => by
    rw [List.replicate_succ]
    simp only [flagsF, Bool.false_eq_true, if_false]
    exact flagsF_none L is n
theorem holds_of {Ds : List (Value → World → Prop)} {k : Nat} {v : Value} {w : World} {D : Value → World → Prop} (h : Ds[k]? = some D) (hd : D v w) : Holds Ds k v w := by
  intro D' h'
  rw [h] at h'
  simp only [Option.some.injEq] at h'
  rw [← h']; exact hd
section
variable {P : Program} {md : Region.Mode} {ops : Array Oper} {Q : Exit → Act → World → Prop} {S : World → Prop}
/-- Whatever order they come up in, from the start. -/
theorem wpAnyH_flow' {W0 : World} {A0 : Act} {L : Array Bool} (is : List Nat) (ts : List Tmp) (deps : List (List Nat)) (Ds : List (Value → World → Prop))
    (hok : flowOK md ops L is deps = true) (hts : ts.length = is.length) (hnd : ts.Nodup) (vs0 : List Value) (hv : vs0.length = is.length) (hp : putsL A0 ts vs0 = A0)
    (hD : ∀ D ∈ Ds, ∀ v w w', D v w → Below w.heap.size w w' → D v w')
    (hS : ∀ w, Below W0.heap.size W0 w → S w)
    (hstep : ∀ k, k < is.length → ∀ vs w, vs.length = is.length → Below W0.heap.size W0 w → (∀ j ∈ deps.getD k [], ∀ v, vs[j]? = some v → Holds Ds j v w) →
      ∃ o, ops[is.getD k 0]? = some o ∧ Region.wanted o (yielded ops (putsL A0 ts vs).tmps) = true ∧
        ∀ K, Hid (∀ v w', Below w.heap.size w w' → Holds Ds k v w' → K ((putsL A0 ts vs).put (some (ts.getD k 0)) v) w') → o.wp P (putsL A0 ts vs) w K Q)
    {f : Nat} (hend : ∀ vs w, vs.length = is.length → Below W0.heap.size W0 w → (∀ k v, vs[k]? = some v → Holds Ds k v w) → wpAnyH P md ops Q S f (flagsF L is (List.replicate is.length true)) (putsL A0 ts vs) w) :
    wpAnyH P md ops Q S (f + is.length) L A0 W0 := by
  have h := wpAnyH_flow W0 A0 L is ts deps Ds hok hts hnd hD hS hstep hend is.length (List.replicate is.length false) vs0 W0 (by simp)
    ⟨by simp, hv, by
      unfold closedB
      rw [List.all_eq_true]
      intro k _
      rw [List.getD_eq_getElem?_getD, List.getElem?_replicate]
      split <;> rfl, Below.refl _ _, fun k v h => by
        rw [List.getD_eq_getElem?_getD, List.getElem?_replicate] at h
        split at h <;> simp at h⟩
  rw [hp, flagsF_none] at h
  exact h
end
end
end
section
open Go

/-- The post ahead of the last operation. -/
def QLast (P : Program) (s : Oper) (Q : Exit → Act → World → Prop) : Exit → Act → World → Prop
  | .normal, a, w => s.wp P a w (fun a' w' => Q .normal a' w') Q
  | e, a, w => Q e a w
def lastOK (md : Region.Mode) (l : List Oper) (s : Oper) : Bool :=
  s.guard.isNone && (List.range l.length).all (fun j => s.after.any fun e => Region.binds md e && e.on == j) && s.after.all (fun e => decide (e.on < l.length)) &&
  (List.range l.length).all fun i => match l[i]? with
    | some o => (match o.guard with | none => true | some (j, _) => decide (j < l.length)) && o.after.all fun e => decide (e.on < i)
    | none => true

theorem upon_Q {P : Program} {s o : Oper} {Q : Exit → Act → World → Prop} {a : Act} {K K' : Act → World → Prop} {r : Result Next} (hK : ∀ a w, K a w → K' a w)
    (h : o.upon P a K (QLast P s Q) r) : o.upon P a K' Q r := by
  have hL : LetsOut (QLast P s Q) → LetsOut Q := fun h => h
  cases r with
  | ok n w =>
    cases n with
    | value v => exact hK _ _ h
    | skip => exact hK _ _ h
    | defer d => exact hK _ _ h
    | enter f args =>
      refine Calls.mono (h : Calls P f args w _) ?_
      intro e w' h
      cases e with
      | returned v => exact hK _ _ h
      | panicked c => exact h
      | outgrown => exact hL h
    | row r args => exact Rows.mono (h : Rows P r args w _) fun v w' h => hK _ _ h
    | _ => exact (h : False).elim
  | halt x w =>
    cases x with
    | panic v => exact h
    | _ => exact (h : False).elim
theorem wp_Q {P : Program} {s o : Oper} {Q : Exit → Act → World → Prop} {a : Act} {w : World} {K K' : Act → World → Prop} (hK : ∀ a w, K a w → K' a w)
    (h : o.wp P a w K (QLast P s Q)) : o.wp P a w K' Q := upon_Q hK h

section
variable {P : Program} {md : Region.Mode} {l : List Oper} {s : Oper} {Q : Exit → Act → World → Prop} {S : World → Prop}
theorem ready_iff {ops : Array Oper} {listed : Array Bool} {i : Nat} : i ∈ Region.ready md ops listed ↔ ∃ o, ops[i]? = some o ∧ listed.getD i true = false ∧ ∀ e ∈ o.after, Region.binds md e = true → listed.getD e.on false = true := by
  unfold Region.ready
  rw [List.mem_filter, List.mem_range, Bool.and_eq_true]
  constructor
  · rintro ⟨h1, h2, h3⟩
    rw [Array.getElem?_eq_getElem h1, Option.map_some, Option.getD_some, Array.all_eq_true_iff_forall_mem] at h3
    refine ⟨_, Array.getElem?_eq_getElem h1, by simpa using h2, fun e he hb => ?_⟩
    have := h3 e he
    rw [hb] at this; simpa using this
  · rintro ⟨o, h1, h2, h3⟩
    have hlt := (Array.getElem?_eq_some_iff.1 h1).1
    refine ⟨hlt, by rw [h2]; rfl, ?_⟩
    rw [h1, Option.map_some, Option.getD_some, Array.all_eq_true_iff_forall_mem]
    intro e he
    cases hb : Region.binds md e with
    | false => rfl
    | true => rw [h3 e he hb]; rfl
theorem getD_push {L : Array Bool} {b d : Bool} {i : Nat} (hi : i < L.size) : (L.push b).getD i d = L.getD i d := by
  simp [Array.getD, hi, Nat.lt_succ_of_lt hi, Array.getElem_push_lt]
theorem getD_last {L : Array Bool} {b d : Bool} : (L.push b).getD L.size d = b := by
  simp [Array.getD]
theorem getD_any {L : Array Bool} {c d : Bool} {i : Nat} (hi : i < L.size) : L.getD i c = L.getD i d := by
  simp [Array.getD, hi]
structure LastW (md : Region.Mode) (l : List Oper) (s : Oper) : Prop where
  sg : s.guard = none
  all : ∀ j, j < l.length → ∃ e ∈ s.after, Region.binds md e = true ∧ e.on = j
  on : ∀ e ∈ s.after, e.on < l.length
  guard : ∀ (i : Nat) (o : Oper) (j : Nat) (b : Bool), l[i]? = some o → o.guard = some (j, b) → j < l.length
  after : ∀ (i : Nat) (o : Oper), l[i]? = some o → ∀ e ∈ o.after, e.on < i
theorem lastW (h : lastOK md l s = true) : LastW md l s := by
  unfold lastOK at h
  simp only [Bool.and_eq_true, List.all_eq_true, List.mem_range] at h
  obtain ⟨⟨⟨h1, h2⟩, h3⟩, h4⟩ := h
  refine ⟨by simpa using h1, fun j hj => ?_, fun e he => ?_, fun i o j b hi hg => ?_, fun i o hi e he => ?_⟩
  · have := h2 j hj
    rw [Array.any_eq_true] at this
    obtain ⟨k, hk, h5⟩ := this
    rw [Bool.and_eq_true, beq_iff_eq] at h5
    exact ⟨_, Array.getElem_mem hk, h5.1, h5.2⟩
  · rw [Array.all_eq_true_iff_forall_mem] at h3
    simpa using h3 e he
  · have := h4 i (List.getElem?_eq_some_iff.1 hi).1
    rw [hi] at this
    simp only [Bool.and_eq_true, hg] at this
    simpa using this.1
  · have := h4 i (List.getElem?_eq_some_iff.1 hi).1
    rw [hi] at this
    simp only [Bool.and_eq_true] at this
    have h5 := this.2
    rw [Array.all_eq_true_iff_forall_mem] at h5
    simpa using h5 e he
theorem ops_at {i : Nat} (hi : i < l.length) : (l ++ [s]).toArray[i]? = l.toArray[i]? := by
  simp [List.getElem?_append_left hi]
theorem ops_last : (l ++ [s]).toArray[l.length]? = some s := by simp
theorem ready_old (h : LastW md l s) {L : Array Bool} (hL : L.size = l.length) {b : Bool} {i : Nat} (hi : i < l.length) : i ∈ Region.ready md (l ++ [s]).toArray (L.push b) ↔ i ∈ Region.ready md l.toArray L := by
  rw [ready_iff, ready_iff, ops_at hi]
  constructor
  · rintro ⟨o, h1, h2, h3⟩
    have hio : l[i]? = some o := by simpa using h1
    refine ⟨o, h1, by rw [← getD_push (b := b) (by omega)]; exact h2, fun e he hb => ?_⟩
    have := h.after i o hio e he
    rw [← getD_push (b := b) (by omega)]; exact h3 e he hb
  · rintro ⟨o, h1, h2, h3⟩
    have hio : l[i]? = some o := by simpa using h1
    refine ⟨o, h1, by rw [getD_push (by omega)]; exact h2, fun e he hb => ?_⟩
    have := h.after i o hio e he
    rw [getD_push (by omega)]; exact h3 e he hb
/-- None may come up: all have. -/
theorem all_up (h : LastW md l s) {L : Array Bool} (hL : L.size = l.length) (hr : Region.ready md l.toArray L = []) : ∀ i, i < l.length → L.getD i false = true := by
  intro i
  induction i using Nat.strongRecOn with
  | _ i ih =>
    intro hi
    cases hc : L.getD i false with
    | true => rfl
    | false =>
      exfalso
      have : i ∈ Region.ready md l.toArray L := ready_iff.2 ⟨l[i], by simp, by rw [getD_any (d := false) (by omega)]; exact hc, fun e he _ => by
        have h1 := h.after i l[i] (List.getElem?_eq_getElem hi) e he
        exact ih e.on h1 (by omega)⟩
      rw [hr] at this; simp at this
theorem last_up (h : LastW md l s) {L : Array Bool} (hL : L.size = l.length) {b : Bool} : l.length ∈ Region.ready md (l ++ [s]).toArray (L.push b) ↔ b = false ∧ ∀ i, i < l.length → L.getD i false = true := by
  rw [ready_iff]
  constructor
  · rintro ⟨o, h1, h2, h3⟩
    rw [ops_last, Option.some.injEq] at h1
    subst h1
    refine ⟨by rw [← hL, getD_last] at h2; exact h2, fun i hi => ?_⟩
    obtain ⟨e, he, hb, rfl⟩ := h.all i hi
    rw [← getD_push (b := b) (by omega)]; exact h3 e he hb
  · rintro ⟨rfl, h1⟩
    exact ⟨s, ops_last, by rw [← hL, getD_last], fun e he _ => by
      have := h.on e he
      rw [getD_push (by omega)]; exact h1 _ this⟩
theorem ready_lt {ops : Array Oper} {L : Array Bool} {i : Nat} (h : i ∈ Region.ready md ops L) : i < ops.size := by
  obtain ⟨o, h1, -⟩ := ready_iff.1 h
  exact (Array.getElem?_eq_some_iff.1 h1).1
theorem ready_none (_ : LastW md l s) {L : Array Bool} (hL : L.size = l.length) (hu : ∀ i, i < l.length → L.getD i false = true) : Region.ready md l.toArray L = [] := by
  rw [List.eq_nil_iff_forall_not_mem]
  intro i hi
  have hlt := ready_lt hi
  obtain ⟨o, h1, h2, -⟩ := ready_iff.1 hi
  have h3 := hu i (by simpa using hlt)
  rw [getD_any (d := true) (by rw [hL]; simpa using hlt), h2] at h3
  cases h3
theorem push_last {L : Array Bool} (hL : L.size = l.length) {b c : Bool} : (L.push b).setIfInBounds l.length c = L.push c := by
  apply Array.ext_getElem?
  intro i
  rw [Array.getElem?_setIfInBounds, Array.getElem?_push, Array.getElem?_push]
  by_cases hi : l.length = i
  · subst hi
    rw [if_pos rfl, if_pos (by rw [Array.size_push]; omega), if_pos hL.symm]
  · rw [if_neg hi]
    by_cases h2 : i = L.size
    · omega
    · rw [if_neg h2, if_neg h2]
theorem push_old {L : Array Bool} {b c : Bool} {i : Nat} (hi : i < L.size) : (L.push b).setIfInBounds i c = (L.setIfInBounds i c).push b := by
  apply Array.ext_getElem?
  intro j
  rw [Array.getElem?_setIfInBounds, Array.getElem?_push, Array.getElem?_push, Array.getElem?_setIfInBounds, Array.size_setIfInBounds, Array.size_push]
  by_cases h1 : i = j
  · subst h1
    rw [if_pos rfl, if_pos (by omega), if_neg (by omega), if_pos rfl, if_pos hi]
  · rw [if_neg h1, if_neg h1]
theorem yielded_old {t : Array Value} {j : Nat} (hj : j < l.length) : yielded (l ++ [s]).toArray t j = yielded l.toArray t j := by
  unfold yielded
  rw [ops_at hj]
theorem wanted_old (h : LastW md l s) {t : Array Value} {i : Nat} {o : Oper} (ho : l[i]? = some o) : Region.wanted o (yielded (l ++ [s]).toArray t) = Region.wanted o (yielded l.toArray t) := by
  unfold Region.wanted
  cases hg : o.guard with
  | none => rfl
  | some p =>
    obtain ⟨j, b⟩ := p
    simp only
    rw [yielded_old (h.guard i o j b ho hg)]

/-- **The others with a held fact, then the last one.** -/
theorem wpAnyH_last (h : LastW md l s) : ∀ (fuel : Nat) (L : Array Bool) (a : Act) (w : World), L.size = l.length → wpAnyH P md l.toArray (QLast P s Q) S fuel L a w →
    wpAnyH P md (l ++ [s]).toArray Q (fun _ => True) (fuel + 1) (L.push false) a w := by
  have fin : ∀ (fuel : Nat) (L : Array Bool) (a : Act) (w : World), L.size = l.length → (∀ i, i < l.length → L.getD i false = true) → QLast P s Q .normal a w →
      wpOp P (l ++ [s]).toArray Q l.length (fun a' w' => True ∧ wpAnyH P md (l ++ [s]).toArray Q (fun _ => True) fuel ((L.push false).setIfInBounds l.length true) a' w') a w := by
    intro fuel L a w hL hu hq
    unfold wpOp
    rw [ops_last]
    have hwt : Region.wanted s (yielded (l ++ [s]).toArray a.tmps) = true := by unfold Region.wanted; rw [h.sg]
    simp only [hwt, if_true]
    refine .inl (Oper.wp_mono (fun a' w' hq' => ⟨trivial, ?_⟩) (hq : s.wp P a w _ Q))
    rw [push_last hL]
    have hnone : Region.ready md (l ++ [s]).toArray (L.push true) = [] := by
      rw [List.eq_nil_iff_forall_not_mem]
      intro i hi
      have hlt := ready_lt hi
      rw [List.size_toArray, List.length_append, List.length_cons, List.length_nil] at hlt
      by_cases hil : i < l.length
      · rw [ready_old h hL hil, ready_none h hL hu] at hi
        simp at hi
      · have : i = l.length := by omega
        subst this
        have := ((last_up h hL).1 hi).1
        cases this
    cases fuel with
    | zero => exact ⟨hnone, hq'⟩
    | succ fuel => exact ⟨fun _ => hq', fun i hi => by rw [hnone] at hi; simp at hi⟩
  have noend : ∀ (L : Array Bool), L.size = l.length → Region.ready md (l ++ [s]).toArray (L.push false) ≠ [] := by
    intro L hL hr
    have h1 : Region.ready md l.toArray L = [] := by
      rw [List.eq_nil_iff_forall_not_mem]
      intro i hi
      have hlt := ready_lt hi
      have := (ready_old h hL (b := false) (by simpa using hlt)).2 hi
      rw [hr] at this; simp at this
    have := (last_up h hL (b := false)).2 ⟨rfl, all_up h hL h1⟩
    rw [hr] at this; simp at this
  intro fuel
  induction fuel with
  | zero =>
    intro L a w hL hw
    obtain ⟨h0, hq⟩ := hw
    refine ⟨fun hr => absurd hr (noend L hL), fun i hi => ?_⟩
    have hlt := ready_lt hi
    rw [List.size_toArray, List.length_append, List.length_cons, List.length_nil] at hlt
    by_cases hil : i < l.length
    · rw [ready_old h hL hil, h0] at hi
      simp at hi
    · have : i = l.length := by omega
      subst this
      exact fin 0 L a w hL (all_up h hL h0) hq
  | succ fuel ih =>
    intro L a w hL hw
    obtain ⟨h0, hw⟩ := hw
    refine ⟨fun hr => absurd hr (noend L hL), fun i hi => ?_⟩
    have hlt := ready_lt hi
    rw [List.size_toArray, List.length_append, List.length_cons, List.length_nil] at hlt
    by_cases hil : i < l.length
    · have hi2 := (ready_old h hL hil).1 hi
      have h1 := hw i hi2
      have hcont : ∀ a' w', S w' ∧ wpAnyH P md l.toArray (QLast P s Q) S fuel (L.setIfInBounds i true) a' w' →
          True ∧ wpAnyH P md (l ++ [s]).toArray Q (fun _ => True) (fuel + 1) ((L.push false).setIfInBounds i true) a' w' := fun a' w' h2 => by
        refine ⟨trivial, ?_⟩
        rw [push_old (by omega)]
        exact ih _ _ _ (by rw [Array.size_setIfInBounds]; exact hL) h2.2
      unfold wpOp at h1 ⊢
      rw [ops_at hil]
      have hio : l.toArray[i]? = some l[i] := by simp
      rw [hio] at h1 ⊢
      simp only at h1 ⊢
      rw [wanted_old h (List.getElem?_eq_getElem hil)]
      split
      · rename_i hwt
        rw [if_pos hwt] at h1
        rcases h1 with h1 | ⟨h1, h2⟩
        · exact .inl (wp_Q hcont h1)
        · exact .inr ⟨h1, h2⟩
      · rename_i hwt
        rw [if_neg hwt] at h1
        exact hcont _ _ h1
    · have : i = l.length := by omega
      subst this
      have hu := ((last_up h hL).1 hi).2
      exact fin (fuel + 1) L a w hL hu (h0 (ready_none h hL hu))

/-- A region's walk: the others with S, then the last. -/
theorem wp_region_last {id : Nat} {ops : List Oper} {a : Act} {w : World} (hm : P.follows .mixedOrders = true) (hl : lastOK .any ops.dropLast s = true) (hs : ops = ops.dropLast ++ [s]) (hS : S w.drew)
    (h : S w.drew → wpAnyH P .any ops.dropLast.toArray (QLast P s Q) S ops.dropLast.length (Array.replicate ops.dropLast.length false) a w.drew) : (Code.region id ops.toArray true).wp P Q a w := by
  refine wp_region_held_drew (S := fun _ => True) hm trivial fun _ => ?_
  have h1 := wpAnyH_last (lastW hl) _ _ _ _ (by simp) (h hS)
  rw [← hs] at h1
  have e1 : ops.toArray.size = ops.dropLast.length + 1 := by
    conv => lhs; rw [hs]
    simp
  rw [e1]
  have e2 : (Array.replicate ops.dropLast.length false).push false = Array.replicate (ops.dropLast.length + 1) false := by
    rw [← Array.replicate_succ]
  rw [e2] at h1
  exact h1
end
end
end Go.Proofs.YtckkjjiaecnciaaGreat
