/-
  The program: facts.Add, facts.Drop.
-/
import Derived.Test.YtceipnlpofebmaaTmW
import Derived.Test.YtceipnlpofebmaaTmM
namespace Go.Proofs.Ytceipnlpofebmaa
open Go Go.RowKit

theorem cmpR_right {a b : List Cell} (ha : RightT a) (hb : RightT b) : cmpR a b = cmpT a b := cmpR_eq ha.2 hb.2
theorem insT_ins {t : List Cell} (ht : RightT t) : ∀ {l : List (List Cell)}, (∀ x ∈ l, RightT x) → ¬ t ∈ l → insT t l = l.take (insAtT t l) ++ [t] ++ l.drop (insAtT t l)
  | [], _, _ => rfl
  | a :: l, hr, hn => by
    have hne : a ≠ t := fun e => hn (by simp [e])
    have ih := insT_ins ht (l := l) (fun x hx => hr x (by simp [hx])) (fun h => hn (by simp [h]))
    have hz : cmpT a t ≠ 0 := fun e => hne (cmpT_zero.1 e)
    have hneg := cmpT_neg a t
    unfold insT insAtT
    rw [cmpR_right ht (hr a (by simp))]
    by_cases h : cmpT a t < 0
    · rw [if_pos h, if_neg (by omega), ih]
      simp
    · rw [if_neg h, if_pos (by omega)]
      simp

/-- Rows that may be. -/
structure RowT (l : List (List Cell)) : Prop where
  sort : SortT l
  fact : ∀ x ∈ l, factT x = true
  len : l.length ≤ 1000000
theorem RowT.right {l : List (List Cell)} (h : RowT l) : ∀ x ∈ l, RightT x := fun x hx => (factT_parts (h.fact x hx)).1

set_option maxHeartbeats 1600000 in
set_option maxRecDepth 100000 in
theorem AddP_spec {S T : Nat → Prop} {w : World} {v u : Value} {l : List (List Cell)} {t : List Cell} (hl : Seq (seqE cellE) S w v l) (ht : Seq cellE T w u t) (hrow : RowT l) :
    Calls Try.prog 7 #[v, u] w (RetE (fun o w' => Seq (seqE cellE) (Fr S w) w' o (addO l t)) (addE l t) w) := by
  have Ht := Lib.hid ht
  have Hl := Lib.hid hl
  have Hrow := Lib.hid hrow
  have hlen := hrow.len
  obtain ⟨aa, ac, rfl, -⟩ := hl
  obtain ⟨ta, tc, rfl, -⟩ := ht
  go_enter Try.func7, Try.ntmps7
  go_wp2_with fail
  refine (FactP_spec Ht.out).mono ?_
  rintro e w1 ⟨rfl, hb1⟩
  cases hf : factT t
  · have he := Lib.hid (show addE l t = 120 by unfold addE; rw [hf]; rfl)
    have ho := Lib.hid (show addO l t = [] by unfold addO; rw [hf]; rfl)
    go_wp2_with fail
    refine bodyPost_ret (v := .tuple #[.slice none 0 0, .int .i64 120]) (by simp [results, Try.results7, go_sem]) rfl ?_
    exact ⟨_, by rw [he.out], hb1, by rw [ho.out]; exact Seq.nil _ _ _⟩
  · have htr := Lib.hid (factT_parts hf).1
    go_wp2_with fail
    refine (find_spec (Hl.out.at hb1) (Ht.out.at hb1) Hrow.out.sort hlen).mono ?_
    rintro e w2 ⟨rfl, hb2⟩
    have hb2' := below_step hb2 hb1
    have hz2 := hb2'.size
    by_cases hh : t ∈ l
    · rw [decide_eq_true hh]
      have he := Lib.hid (show addE l t = 0 by unfold addE; rw [if_pos hf, if_pos hh])
      have ho := Lib.hid (show addO l t = l by unfold addO; rw [if_pos hf, if_pos hh])
      go_wp2_with fail
      refine bodyPost_ret (v := .tuple #[.slice aa l.length ac, .int .i64 0]) (by simp [results, Try.results7, go_sem]) rfl ?_
      exact ⟨_, by rw [he.out], hb2', by rw [ho.out]; exact (Hl.out.at hb2').mono (fun _ h _ => .inl h) fun _ _ _ => rfl⟩
    · rw [decide_eq_false hh]
      by_cases h512 : 512 ≤ l.length
      · have he := Lib.hid (show addE l t = 2 by unfold addE; rw [if_pos hf, if_neg hh, if_pos h512])
        have ho := Lib.hid (show addO l t = [] by unfold addO; rw [if_pos hf, if_neg hh, if_pos h512])
        go_wp2_with fail
        refine bodyPost_ret (v := .tuple #[.slice none 0 0, .int .i64 2]) (by simp [results, Try.results7, go_sem]) rfl ?_
        exact ⟨_, by rw [he.out], hb2', by rw [ho.out]; exact Seq.nil _ _ _⟩
      · have he := Lib.hid (show addE l t = 0 by unfold addE; rw [if_pos hf, if_neg hh, if_neg h512])
        have ho := Lib.hid (show addO l t = l.take (insAtT t l) ++ [t] ++ l.drop (insAtT t l) by unfold addO; rw [if_pos hf, if_neg hh, if_neg h512, insT_ins htr.out Hrow.out.right hh])
        have hl512 : (l.length : Int) < 512 := by omega
        have hil := insAtT_le t l
        obtain ⟨i, hie⟩ : ∃ i, i = insAtT t l := ⟨_, rfl⟩
        rw [← hie] at ho hil ⊢
        clear h512 hh hf hie
        go_wp2_with fail
        refine (cloneT_spec (Hl.out.at hb2') (by omega)).mono ?_
        rintro e w3 ⟨v3, rfl, hb3, hown3⟩
        have hb3' := below_step hb3 hb2'
        have Hown3 := Lib.hid (hown3.reS (T := Fr S w) fun b hs _ _ => .inl hs.1)
        obtain ⟨a3, c3, rfl, -, -⟩ := hown3.shape
        have hz3 := hb3.size
        clear hown3
        go_wp2_with fail
        refine (cloneC_spec (Ht.out.at hb3') (by have := htr.out.1; omega)).mono ?_
        rintro e w4 ⟨v4, rfl, hb4, hown4⟩
        have hb4' := below_step hb4 hb3'
        have Hs4 := Lib.hid ((hown4.cellS (T := fun _ => False)).seq (T := fun b => w3.heap.size ≤ b) (by have := htr.out.1; omega) fun b _ h => h.elim False.elim id)
        obtain ⟨a4, c4, rfl, -, -⟩ := hown4.shape
        have hz4 := hb4.size
        clear hown4
        go_wp2_with fail
        refine (insertT_spec (wm := w3) (base := w2.heap.size) (vb := w4.heap.size) (i := i) Hown3.out ((Seq.way : Below w3.heap.size w3 _)) hz3 (Row.new _ _ _ rfl) (by omega) (Hs4.out.at Seq.way) (fun b h _ => ⟨.inr (by omega), .inr h⟩) hil (by omega)).mono ?_
        rintro e w5 ⟨o5, rfl, hb5, hown5⟩
        have hb5' : Below w.heap.size w w5 := hb4'.trans ((Below.mono (Seq.way : Below w4.heap.size w4 _) (by omega)).trans (hb5.mono hz2))
        have hml : (addO l t).length ≤ 1000001 := by rw [ho.out]; simp; omega
        rw [← ho.out] at hown5
        obtain ⟨m, hm⟩ : ∃ m, m = addO l t := ⟨_, rfl⟩
        rw [← hm] at hown5 hml
        have Hm := Lib.hid hm
        clear hm
        have Hs5 := Lib.hid (hown5.seq (T := Fr S w) (by omega) fun b _ hb => hb.elim id fun h => .inr (by omega))
        obtain ⟨a5, c5, rfl, -, -⟩ := hown5.shape
        clear hown5
        go_wp2_with fail
        go_ret2
        exact ⟨_, by rw [he.out]; rfl, hb5', by rw [← Hm.out]; exact Hs5.out⟩

def dropPE (l : List (List Cell)) (t : List Cell) : List (List Cell) := l.take (insAtT t l) ++ l.drop (insAtT t l + 1)
theorem dropT_at {t : List Cell} {l : List (List Cell)} (hs : SortT l) (h : t ∈ l) : dropT t l = l.take (insAtT t l) ++ l.drop (insAtT t l + 1) ∧ insAtT t l < l.length := by
  obtain ⟨hk, h0⟩ := (mem_insAtT hs).1 h
  refine ⟨?_, hk⟩
  have he := cmpT_zero.1 h0
  have hsplit : l = l.take (insAtT t l) ++ t :: l.drop (insAtT t l + 1) := by
    conv => lhs; rw [← List.take_append_drop (insAtT t l) l, List.drop_eq_getElem_cons hk, he]
  have key : ∀ j (hj : j < l.length), j ≠ insAtT t l → l[j] ≠ t := by
    intro j hj hne e
    rcases Nat.lt_or_gt_of_ne hne with h1 | h1
    · have := List.pairwise_iff_getElem.1 hs j _ hj hk h1
      rw [he, e, cmpT_self] at this; omega
    · have := List.pairwise_iff_getElem.1 hs _ j hk hj h1
      rw [he, e, cmpT_self] at this; omega
  unfold dropT fltL
  conv => lhs; rw [hsplit]
  rw [List.filter_append, List.filter_cons_of_neg (by simp)]
  congr 1
  · rw [List.filter_eq_self]
    intro x hx
    obtain ⟨j, hj, rfl⟩ := List.mem_iff_getElem.1 hx
    rw [List.length_take] at hj
    have := key j (by omega) (by omega)
    rw [List.getElem_take]
    simpa using this
  · rw [List.filter_eq_self]
    intro x hx
    obtain ⟨j, hj, rfl⟩ := List.mem_iff_getElem.1 hx
    rw [List.length_drop] at hj
    have := key (insAtT t l + 1 + j) (by omega) (by omega)
    rw [List.getElem_drop]
    simpa using this

set_option maxHeartbeats 1600000 in
set_option maxRecDepth 100000 in
theorem DropP_spec {S T : Nat → Prop} {w : World} {v u : Value} {l : List (List Cell)} {t : List Cell} (hl : Seq (seqE cellE) S w v l) (ht : Seq cellE T w u t) (hrow : RowT l) :
    Calls Try.prog 9 #[v, u] w (RetE (fun o w' => Seq (seqE cellE) (Fr S w) w' o (dropO l t)) (dropE l t) w) := by
  have Ht := Lib.hid ht
  have Hl := Lib.hid hl
  have Hrow := Lib.hid hrow
  have hlen := hrow.len
  obtain ⟨aa, ac, rfl, -⟩ := hl
  obtain ⟨ta, tc, rfl, -⟩ := ht
  go_enter Try.func9, Try.ntmps9
  go_wp2_with fail
  refine (FactP_spec Ht.out).mono ?_
  rintro e w1 ⟨rfl, hb1⟩
  cases hf : factT t
  · have he := Lib.hid (show dropE l t = 120 by unfold dropE; rw [hf]; rfl)
    have ho := Lib.hid (show dropO l t = [] by unfold dropO; rw [hf]; simp)
    go_wp2_with fail
    refine bodyPost_ret (v := .tuple #[.slice none 0 0, .int .i64 120]) (by simp [results, Try.results9, go_sem]) rfl ?_
    exact ⟨_, by rw [he.out], hb1, by rw [ho.out]; exact Seq.nil _ _ _⟩
  · go_wp2_with fail
    refine (find_spec (Hl.out.at hb1) (Ht.out.at hb1) Hrow.out.sort hlen).mono ?_
    rintro e w2 ⟨rfl, hb2⟩
    have hb2' := below_step hb2 hb1
    have hz2 := hb2'.size
    by_cases hh : t ∈ l
    · rw [decide_eq_true hh]
      have he := Lib.hid (show dropE l t = 0 by unfold dropE; rw [if_pos hf, if_pos hh])
      obtain ⟨hd1, hd2⟩ := dropT_at Hrow.out.sort hh
      have ho := Lib.hid (show dropO l t = l.take (insAtT t l) ++ l.drop (insAtT t l + 1) by unfold dropO; rw [if_pos ⟨hf, hh⟩, hd1])
      obtain ⟨i, hie⟩ : ∃ i, i = insAtT t l := ⟨_, rfl⟩
      rw [← hie] at ho hd2 ⊢
      clear hh hf hie hd1
      have hwr : IntKind.i64.wrap ((i : Int) + 1) = (i : Int) + 1 := by rw [IntKind.wrap_i64]; omega
      go_wp2_with fail
      refine (cloneT_spec (Hl.out.at hb2') (by omega)).mono ?_
      rintro e w3 ⟨v3, rfl, hb3, hown3⟩
      have hb3' := below_step hb3 hb2'
      have Hown3 := Lib.hid (hown3.reS (T := Fr S w) fun b hs _ _ => .inl hs.1)
      obtain ⟨a3, c3, rfl, -, -⟩ := hown3.shape
      have hz3 := hb3.size
      clear hown3
      go_wp2_with fail
      refine (deleteT_spec (base := w2.heap.size) (k := i) Hown3.out hd2 hz3).mono ?_
      rintro e w5 ⟨o5, rfl, hb5, hown5⟩
      have hb5' : Below w.heap.size w w5 := hb3'.trans (hb5.mono hz2)
      have hml : (dropO l t).length ≤ 1000001 := by rw [ho.out]; simp; omega
      rw [← ho.out] at hown5
      obtain ⟨m, hm⟩ : ∃ m, m = dropO l t := ⟨_, rfl⟩
      rw [← hm] at hown5 hml
      have Hm := Lib.hid hm
      clear hm
      have Hs5 := Lib.hid (hown5.seq (T := Fr S w) (by omega) fun b _ hb => hb.elim id fun h => .inr (by omega))
      obtain ⟨a5, c5, rfl, -, -⟩ := hown5.shape
      clear hown5
      go_wp2_with fail
      go_ret2
      exact ⟨_, by rw [he.out]; rfl, hb5', by rw [← Hm.out]; exact Hs5.out⟩
    · rw [decide_eq_false hh]
      have he := Lib.hid (show dropE l t = 3 by unfold dropE; rw [if_pos hf, if_neg hh])
      have ho := Lib.hid (show dropO l t = [] by unfold dropO; rw [if_neg (fun h => hh h.2)])
      go_wp2_with fail
      refine bodyPost_ret (v := .tuple #[.slice none 0 0, .int .i64 3]) (by simp [results, Try.results9, go_sem]) rfl ?_
      exact ⟨_, by rw [he.out], hb2', by rw [ho.out]; exact Seq.nil _ _ _⟩
end Go.Proofs.Ytceipnlpofebmaa
