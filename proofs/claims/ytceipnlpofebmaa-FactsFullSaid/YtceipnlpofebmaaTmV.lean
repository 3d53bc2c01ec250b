/-
  The program: package slices at rows of one's own: Delete, Insert where there is room.
-/
import Derived.Test.YtceipnlpofebmaaTmU
namespace Go.Proofs.Ytceipnlpofebmaa
open Go Go.RowKit

def FlatT (S : Nat → Prop) (w : World) (cs : List Value) (l : List (List Cell)) : Prop :=
  cs.length = l.length ∧ ∀ (k : Nat) (t : List Cell), l[k]? = some t → ∃ v, cs[k]? = some v ∧ Seq cellE S w v t
theorem FlatT.mono {S T : Nat → Prop} {w w' : World} {cs : List Value} {l : List (List Cell)} (h : FlatT S w cs l) (hT : ∀ b, S b → b < w.heap.size → T b) (hw : ∀ b, S b → b < w.heap.size → w'.heap[b]? = w.heap[b]?) : FlatT T w' cs l :=
  ⟨h.1, fun k r hk => by obtain ⟨c, h1, h2⟩ := h.2 k r hk; exact ⟨c, h1, h2.mono hT hw⟩⟩
theorem FlatT.one {S : Nat → Prop} {w : World} {cs : List Value} {l : List (List Cell)} (h : FlatT S w cs l) : ∀ u ∈ cs, u.oneCell' = true := by
  intro u hu
  obtain ⟨j, hj, rfl⟩ := List.mem_iff_getElem.1 hu
  have hl := h.1
  obtain ⟨c, h1, ⟨ao, cap, rfl, -⟩⟩ := h.2 j _ (List.getElem?_eq_getElem (by omega))
  rw [List.getElem?_eq_getElem hj] at h1
  simp only [Option.some.injEq] at h1
  rw [h1]; rfl
theorem FlatT.append {S : Nat → Prop} {w : World} {cs ds : List Value} {l m : List (List Cell)} (h : FlatT S w cs l) (h' : FlatT S w ds m) : FlatT S w (cs ++ ds) (l ++ m) := by
  have e := h.1
  refine ⟨by rw [List.length_append, List.length_append, h.1, h'.1], fun k r hk => ?_⟩
  rcases Nat.lt_or_ge k l.length with hlt | hge
  · rw [List.getElem?_append_left hlt] at hk
    rw [List.getElem?_append_left (by omega)]
    exact h.2 k r hk
  · rw [List.getElem?_append_right hge] at hk
    rw [List.getElem?_append_right (by omega), e]
    exact h'.2 _ r hk
theorem FlatT.take {S : Nat → Prop} {w : World} {cs : List Value} {l : List (List Cell)} (h : FlatT S w cs l) (k : Nat) : FlatT S w (cs.take k) (l.take k) := by
  have e := h.1
  refine ⟨by rw [List.length_take, List.length_take, h.1], fun i r hi => ?_⟩
  have hi' : i < k := by have := (List.getElem?_eq_some_iff.1 hi).1; rw [List.length_take] at this; omega
  rw [List.getElem?_take_of_lt hi'] at hi
  rw [List.getElem?_take_of_lt hi']
  exact h.2 i r hi
theorem FlatT.drop {S : Nat → Prop} {w : World} {cs : List Value} {l : List (List Cell)} (h : FlatT S w cs l) (k : Nat) : FlatT S w (cs.drop k) (l.drop k) := by
  have e := h.1
  refine ⟨by rw [List.length_drop, List.length_drop, h.1], fun i r hi => ?_⟩
  rw [List.getElem?_drop] at hi ⊢
  exact h.2 _ r hi
theorem FlatT.single {S : Nat → Prop} {w : World} {v : Value} {t : List Cell} (h : Seq cellE S w v t) : FlatT S w [v] [t] := by
  refine ⟨rfl, fun k r hk => ?_⟩
  obtain rfl : k = 0 := by have := (List.getElem?_eq_some_iff.1 hk).1; simp at this; omega
  simp at hk; subst hk
  exact ⟨v, rfl, h⟩

theorem Own.flatT {S : Nat → Prop} {base : Nat} {w : World} {v : Value} {l : List (List Cell)} (h : Own (seqE cellE) S base 24 w v l) (hne : l ≠ []) :
    ∃ g cap cur, v = .slice (some ⟨g, 0, none⟩) l.length cap ∧ base ≤ g ∧ l.length ≤ cap ∧ cap ≤ maxLen ∧ cur.length = cap ∧ Row 24 w g cur ∧ FlatT (fun b => S b ∧ b ≠ g) w (cur.take l.length) l := by
  obtain ⟨vs, ⟨hl, hh⟩, h2⟩ := h
  rcases hh with ⟨-, h0⟩ | ⟨g, cap, cur, rfl, hb, hg, hc, hm, hs, ht⟩
  · exact absurd (List.eq_nil_of_length_eq_zero h0) hne
  · have hl1 : vs.length = l.length := by rw [hl]; exact Nat.mul_one _
    refine ⟨g, cap, cur.toList, rfl, hb, hc, hm, by simpa [seqE] using hs, ?_, ?_⟩
    · unfold Row; simpa using hg
    · have ht' : cur.toList.take l.length = vs := by
        rw [← ht]; congr 1; exact (Nat.mul_one _).symm
      rw [ht']
      refine ⟨hl1, fun k r hk => ?_⟩
      obtain ⟨c, ⟨u, rfl, h3⟩, h4⟩ := h2 k r hk
      have h5 := h4 0 (by decide)
      have h6 : vs[k]? = some u := by
        have e : k * (seqE cellE).sz + 0 = k := Nat.mul_one k
        rw [e] at h5
        exact h5
      exact ⟨u, h6, h3.mono (fun b hb _ => ⟨hb.1, fun e => hb.2 (by simp [Value.ownBlock, e])⟩) fun _ _ _ => rfl⟩
/-- A block whose front is terms is a row of one's own. -/
theorem FlatT.own {S : Nat → Prop} {w : World} {base g cap n : Nat} {cur : List Value} {l : List (List Cell)} (hR : Row 24 w g cur) (hn : n = l.length) (h : FlatT (fun b => S b ∧ b ≠ g) w (cur.take n) l) (hb : base ≤ g) (hcl : cur.length = cap) (hcap : n ≤ cap) (hm : cap ≤ maxLen) :
    Own (seqE cellE) S base 24 w (.slice (some ⟨g, 0, none⟩) n cap) l := by
  subst hn
  refine ⟨cur.take l.length, ⟨by rw [List.length_take, hcl]; show min l.length cap = l.length * 1; omega, .inr ⟨g, cap, cur.toArray, rfl, hb, hR, hcap, hm, by show cur.toArray.size = cap * 1; simp; omega, by show cur.toArray.toList.take (l.length * 1) = _; simp⟩⟩, fun k t hk => ?_⟩
  obtain ⟨v, h1, h2⟩ := h.2 k t hk
  refine ⟨[v], ⟨v, rfl, h2.mono (fun b hb _ => ⟨hb.1, fun e => hb.2 (by simpa [Value.ownBlock] using e.symm)⟩) fun _ _ _ => rfl⟩, fun j hj => ?_⟩
  obtain rfl : j = 0 := by have : j < 1 := hj; omega
  have e : k * (seqE cellE).sz + 0 = k := Nat.mul_one k
  rw [e, h1]; rfl

theorem deleteT_spec {S : Nat → Prop} {base : Nat} {w : World} {v : Value} {l : List (List Cell)} {k : Nat} (h : Own (seqE cellE) S base 24 w v l) (hk : k < l.length) (hb : base ≤ w.heap.size) :
    Calls Try.prog 23 #[v, .int .i64 k, .int .i64 ((k : Int) + 1)] w (fun e w' => ∃ o, e = .returned o ∧ Below base w w' ∧ Own (seqE cellE) S base 24 w' o (l.take k ++ l.drop (k + 1))) := by
  obtain ⟨g, cap, cur, rfl, hg, hc, hm, hcl, hR, hF⟩ := h.flatT (by intro e; rw [e] at hk; simp at hk)
  obtain ⟨M, hM⟩ : ∃ M, l.length = M + 1 := ⟨l.length - 1, by omega⟩
  rw [hM] at hc hF ⊢
  refine (delete_spec (k := k) hR hcl hc (by omega) hm hF.one).mono ?_
  rintro e w' ⟨rfl, hgr, cur', hR', hl', ht'⟩
  refine ⟨_, rfl, grown_below hgr hg hb, ?_⟩
  refine FlatT.own hR' (by simp; omega) ?_ hg hl' (by omega) hm
  rw [ht']
  have hF' := hF.mono (w' := w') (T := fun b => S b ∧ b ≠ g) (fun _ h _ => h) fun b hb hl => hgr.block b hl (fun e => hb.2 (by simpa using e))
  have e1 : (cur.take k) = (cur.take (M + 1)).take k := by rw [List.take_take]; congr 1; omega
  rw [e1]
  exact (hF'.take k).append (hF'.drop (k + 1))
end Go.Proofs.Ytceipnlpofebmaa
