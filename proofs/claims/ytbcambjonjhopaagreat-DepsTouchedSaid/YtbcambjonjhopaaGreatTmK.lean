/-
  R12: Made.
-/
import Derived.Test.YtbcambjonjhopaaGreatTmJ
namespace Go.Proofs.YtbcambjonjhopaaGreat
open Go Go.RowKit

def varI (c : Cell) : Cell := if c.kind = 1 then ⟨2, ⟨#[]⟩, c.n⟩ else c
def varM (o : List Cell) (k : Nat) : List Cell := (o.take k).map varI ++ o.drop k
theorem varM_len (o : List Cell) (k : Nat) : (varM o k).length = o.length := by unfold varM; simp; omega
theorem varM_at {o : List Cell} {k : Nat} (hk : k < o.length) : (varM o k)[k]? = some o[k] := by
  unfold varM
  rw [List.getElem?_append_right (by simp; omega), List.getElem?_drop]
  simp only [List.length_map, List.length_take]
  rw [show k + (k - min k o.length) = k by omega, List.getElem?_eq_getElem hk]
theorem varM_step {o : List Cell} {k : Nat} (hk : k < o.length) : varM o (k + 1) = (varM o k).set k (varI o[k]) := by
  have hl : ((o.take k).map varI).length = k := by simp; omega
  unfold varM
  rw [List.take_succ_eq_append_getElem hk, List.map_append, List.append_assoc]
  conv => rhs; rw [List.drop_eq_getElem_cons hk]
  rw [List.set_append_right _ _ (by omega), hl, Nat.sub_self]
  rfl
theorem varM_same {o : List Cell} {k : Nat} (hk : k < o.length) (h : varI o[k] = o[k]) : varM o (k + 1) = varM o k := by
  rw [varM_step hk, h]
  apply List.ext_getElem?
  intro j
  rw [List.getElem?_set]
  by_cases hkj : k = j
  · subst hkj
    rw [if_pos rfl, if_pos (by rw [varM_len]; exact hk), varM_at hk]
  · rw [if_neg hkj]
theorem varM_all (o : List Cell) : varM o o.length = o.map varI := by unfold varM; simp
def factM (t : List Cell) : List Cell := if 12 < depthT ((atomT 12 t).map varI) then [aC] else (atomT 12 t).map varI

theorem varI_ok {c : Cell} (h : cellOK c = true) : cellOK (varI c) = true ∧ arity (varI c) = arity c := by
  unfold varI
  split
  · rename_i h1
    unfold cellOK at h
    rw [if_pos h1] at h
    simp only [Bool.and_eq_true, decide_eq_true_eq] at h
    refine ⟨?_, ?_⟩
    · unfold cellOK
      rw [if_neg (by simp), if_pos rfl]
      simp only [Bool.and_eq_true, decide_eq_true_eq]
      exact ⟨⟨rfl, by omega⟩, by omega⟩
    · unfold arity
      rw [if_neg (by simp), if_neg (by omega)]
  · exact ⟨h, rfl⟩
theorem endC_map : ∀ {l : List Cell} {k m : Nat}, endC k l = some m → endC k (l.map varI) = some m
  | l, 0, m, h => by rw [endC_zero] at *; exact h
  | [], k + 1, m, h => by simp [endC] at h
  | c :: l, k + 1, m, h => by
    rw [endC_succ] at h
    split at h
    · rename_i hc
      obtain ⟨m', hm', rfl⟩ := Option.map_eq_some_iff.1 h
      rw [List.map_cons, endC_succ, if_pos (varI_ok hc).1, (varI_ok hc).2, endC_map hm']
      rfl
    · simp at h
theorem right_map {t : List Cell} (h : RightT t) : RightT (t.map varI) := ⟨by rw [List.length_map]; exact h.1, by rw [List.length_map]; exact endC_map h.2⟩
theorem ground_map (t : List Cell) : groundT (t.map varI) = true := by
  unfold groundT
  rw [List.all_map, List.all_eq_true]
  intro c _
  show (!decide ((varI c).kind = 1)) = true
  unfold varI
  split
  · simp
  · rename_i h; simp [h]
theorem fact_aC : factT [aC] = true := by decide +kernel
theorem factM_fact (t : List Cell) : factT (factM t) = true ∧ (factM t).length ≤ 12 := by
  obtain ⟨h1, h2, h3⟩ := atomT_right (most := 12) t (by omega) (by omega)
  unfold factM
  split
  · exact ⟨fact_aC, by simp⟩
  · rename_i hd
    refine ⟨?_, by rw [List.length_map]; exact h2⟩
    unfold factT
    have hr : rightT ((atomT 12 t).map varI) = true := decide_eq_true (right_map h1)
    have hfu : isFun ((atomT 12 t).map varI) = true := by
      cases ht : atomT 12 t with
      | nil => rw [ht] at h3; simp [isFun] at h3
      | cons c l =>
        rw [ht] at h3
        simp only [isFun, decide_eq_true_eq] at h3
        show decide ((varI c).kind = 3) = true
        unfold varI
        rw [if_neg (by omega)]
        simp [h3]
    rw [hr, hfu, ground_map]
    simp; omega
theorem factT_parts {t : List Cell} (h : factT t = true) : RightT t ∧ isFun t = true ∧ groundT t = true ∧ depthT t ≤ 12 := by
  unfold factT at h
  simp only [Bool.and_eq_true, decide_eq_true_eq] at h
  exact ⟨of_decide_eq_true h.1.1.1, h.1.1.2, h.1.2, h.2⟩
theorem factM_self {t : List Cell} (h : factT t = true) (hl : t.length ≤ 12) : factM t = t := by
  obtain ⟨h1, h2, h3, h4⟩ := factT_parts h
  have hm : madeT 12 t = t := madeT_self h1 hl
  have ha : atomT 12 t = t := by unfold atomT; rw [hm, if_pos h2]
  have hv : t.map varI = t := by
    rw [List.map_congr_left (g := id), List.map_id]
    intro c hc
    unfold groundT at h3
    rw [List.all_eq_true] at h3
    have := h3 c hc
    unfold varI
    rw [if_neg (by simpa using this)]; rfl
  unfold factM
  rw [ha, hv, if_neg (by omega)]

theorem Own.cellS {S T : Nat → Prop} {base : Nat} {e : TypeId} {w : World} {v : Value} {xs : List Cell} (h : Own cellE S base e w v xs) : Own cellE T base e w v xs := by
  obtain ⟨vs, h1, h2⟩ := h
  exact ⟨vs, h1, fun k x hx => h2 k x hx⟩

set_option maxHeartbeats 1600000 in
set_option maxRecDepth 100000 in
theorem MadeR_spec {S : Nat → Prop} {w : World} {v : Value} {t : List Cell} (ht : Seq cellE S w v t) :
    Calls Tryz.prog 29 #[v] w (Ret (fun r w' => Seq cellE (fun b => w.heap.size ≤ b) w' r (factM t)) w) := by
  have Ht := Lib.hid ht
  obtain ⟨ta, tc, rfl, -⟩ := ht
  obtain ⟨o, ho⟩ : ∃ o, o = atomT 12 t := ⟨_, rfl⟩
  obtain ⟨ho1, ho2, ho3⟩ := atomT_right (most := 12) t (by omega) (by omega)
  have hfm := Lib.hid (show factM t = if 12 < depthT (o.map varI) then [aC] else o.map varI by rw [ho]; rfl)
  rw [← ho] at ho1 ho2 ho3
  have Ho := Lib.hid ho
  have hpos := ho1.pos
  clear ho ho1 ho3
  go_enter Tryz.func29, Tryz.ntmps29
  go_wp2_with fail
  refine (AtomR_spec (most := 12) (Ht.out.bnd.at Seq.way) (by omega) (by omega)).mono ?_
  rintro e w1 ⟨v1, rfl, hb1, hs1⟩
  rw [← Ho.out] at hs1
  have Hs1 := Lib.hid hs1
  obtain ⟨p1, n1, rfl, -⟩ := hs1
  have hb1' : Below w.heap.size w w1 := (Seq.way : Below w.heap.size w (w.alloc (.cells #[] 52))).trans (hb1.mono (by simp))
  have hz1 := hb1'.size
  go_wp2_with (at_builtin; refine wpList_appL (S := fun _ => True) (base := w.heap.size) (wm := w.alloc (.cells #[] 52)) (zs := o) rfl (.tmp 5) (.tmp 7) 40 rfl Tryz.underlying40 infoCell rfl rfl (Own.lit0 rfl (Nat.le_refl _) rfl) hb1 rfl Hs1.out (fun b h _ => ⟨trivial, h.imp (fun h => h.2) id⟩) rfl (by omega) (by omega) (by simp) ?_)
  intro ao2 cap2 w2 hown2 hk2
  have hK2 : Below w.heap.size w w2 := hb1'.trans hk2.below
  have hsq := hown2.seq (T := fun _ => True) (by omega) fun _ _ _ => trivial
  obtain ⟨_, _, e2, -, -, -, -, hs5⟩ := id hsq
  simp only [Value.slice.injEq, true_and] at e2
  obtain ⟨rfl, rfl⟩ := e2
  obtain ⟨g, hg⟩ : ∃ g, ao2 = some ⟨g, 0, none⟩ := by
    obtain ⟨vs, hv, -⟩ := hown2
    obtain ⟨g, cap, hv', -⟩ := own_cell hv (i := 0) (by show 0 < o.length * 3; omega)
    simp only [Value.slice.injEq] at hv'
    exact ⟨g, hv'.1⟩
  subst hg
  clear hsq hs5 hk2
  have hown2' : Own cellE (fun _ => True) w.heap.size 52 w2 (.slice (some ⟨g, 0, none⟩) o.length cap2) (varM o 0) := by simpa [varM] using hown2
  have Hown2 := Lib.hid hown2'
  clear hown2 hown2'
  go_wp2_with fail
  go_loopw [4] (fun i wr => ∃ k : Nat, k ≤ o.length ∧ i = .int .i64 k ∧ Own cellE (fun _ => True) w.heap.size 52 wr (.slice (some ⟨g, 0, none⟩) o.length cap2) (varM o k) ∧ Below w.heap.size w wr) (fun i _ => o.length - (intOf i).toNat)
  case atStart => exact ⟨0, Nat.zero_le _, rfl, Hown2.out, hK2⟩
  case round =>
    obtain ⟨k, hk, rfl, hown, hbr⟩ := hrel
    have hzr := hbr.size
    by_cases hlt : k < o.length
    · have hvl := varM_len o k
      have hsq := hown.seq (T := fun _ => True) (by omega) fun _ _ _ => trivial
      obtain ⟨_, _, e2, -, -, -, -, hs5⟩ := hsq
      simp only [Value.slice.injEq] at e2
      obtain ⟨rfl, -, rfl⟩ := e2
      obtain ⟨b, off, e3, -, hb, c0, c1, c2, ok0, ok2, -⟩ := hs5.cell (show k < (varM o k).length by omega)
      simp only [Option.some.injEq, Addr.mk.injEq, and_true] at e3
      obtain ⟨rfl, rfl⟩ := e3
      have hoe : (varM o k)[k]'(by omega) = o[k] := by
        have := varM_at hlt
        rw [List.getElem?_eq_getElem (by omega)] at this
        simpa using this
      rw [hoe] at c0 c1 c2 ok0 ok2
      simp only [Nat.zero_add] at c0 c1 c2
      have hfz : ∀ j, wr.frozen? ⟨g, j, none⟩ = false := by
        obtain ⟨vs, hv, -⟩ := hown
        obtain ⟨g', cap', hv', -, -, -, hfz⟩ := own_cell hv (i := 0) (by show 0 < (varM o k).length * 3; omega)
        simp only [Value.slice.injEq, Option.some.injEq, Addr.mk.injEq, and_true] at hv'
        obtain ⟨rfl, -⟩ := hv'
        exact hfz
      have hgb : w.heap.size ≤ g := by
        have := (hown.blk (b := g) rfl).1
        exact this
      have hst := Lib.hid (varM_step hlt)
      have hsm := Lib.hid (varM_same hlt)
      have Hown := Lib.hid hown
      have Hvl := Lib.hid hvl
      obtain ⟨c, hc⟩ : ∃ c, c = o[k] := ⟨_, rfl⟩
      rw [← hc] at c0 c1 c2 ok0 ok2 hst hsm
      clear hc hs5 hown hoe hvl
      have hkl : (k : Int) < (o.length : Int) := by omega
      have hk0 : (0 : Int) ≤ (k : Int) := by omega
      by_cases h1 : c.kind = 1
      · have hs := Lib.hid (show varM o (k + 1) = (varM o k).set k ⟨2, ⟨#[]⟩, c.n⟩ by rw [hst.out]; unfold varI; rw [if_pos h1])
        have H3 := Own.setCell3 (S := fun _ => True) (base := w.heap.size) (e := 52) (w := wr) (g := g) (cap := cap2) (xs := varM o k) (by rw [Hvl.out]; exact Hown.out) (k := k) (by rw [Hvl.out]; exact hlt) (y := ⟨2, ⟨#[]⟩, c.n⟩) ⟨by simp, by simp⟩ ok2 (by show (⟨#[]⟩ : ByteArray).size ≤ _; decide)
        rw [Hvl.out, ← hs.out] at H3
        have HH3 := Lib.hid H3
        have HB3 := Lib.hid (((hbr.setCell (p := ⟨g, k * 3, none⟩) hgb (.int .i64 2)).setCell (p := ⟨g, k * 3 + 1, none⟩) hgb (.string ⟨#[]⟩)).setCell (p := ⟨g, k * 3 + 2, none⟩) hgb (.int .i64 c.n))
        clear hst H3
        go_wp2_with fail
        go_roundw
        case rel => exact ⟨k + 1, hlt, by go_num, HH3.out, HB3.out⟩
        case measure => simp [intOf]; omega
      · have hs := Lib.hid (hsm.out (by unfold varI; rw [if_neg h1]))
        have h1' : (c.kind == 1) = false := by simpa using h1
        go_wp2_with fail
        go_roundw
        case rel => exact ⟨k + 1, hlt, by go_num, by rw [hs.out]; exact Hown.out, hbr⟩
        case measure => simp [intOf]; omega
    · obtain rfl : k = o.length := by omega
      rw [varM_all] at hown
      have hml : (o.map varI).length = o.length := List.length_map ..
      have hse := Lib.hid ((hown.cellS (T := fun _ => False)).seq (T := fun b => w.heap.size ≤ b) (by omega) fun b _ h => h.elim False.elim id)
      obtain ⟨m, hm⟩ : ∃ m, m = o.map varI := ⟨_, rfl⟩
      rw [← hm] at hse hfm hml
      clear hm hown
      have hse' : Seq cellE (fun b => w.heap.size ≤ b) wr (.slice (some ⟨g, 0, none⟩) o.length cap2) m := by
        have := hse.out
        exact this
      have Hse := Lib.hid hse'
      clear hse hse'
      have hd := depthT_le m
      go_wp2_with fail
      refine (DepthR_spec 200 (by omega) (Nat.le_refl _) Hse.out).mono ?_
      rintro e w3 ⟨rfl, hb3⟩
      have hbr3 := below_step hb3 hbr
      have hz3 := hbr3.size
      by_cases h12 : 12 < depthT m
      · have hf := Lib.hid (show factM t = [aC] by rw [hfm.out, if_pos h12])
        have h12' : (12 : Int) < (depthT m : Int) := by omega
        go_wp2_with fail
        go_ret
        refine ⟨_, rfl, hbr3.trans (Below.mono (Seq.way : Below w3.heap.size w3 _) hz3), ?_⟩
        rw [hf.out]
        exact (aC_seq (heap_alloc_new w3 _)).mono (fun b h _ => by omega) fun _ _ _ => rfl
      · have hf := Lib.hid (show factM t = m by rw [hfm.out, if_neg h12])
        have h12' : ¬ (12 : Int) < (depthT m : Int) := by omega
        go_wp2_with fail
        go_ret
        exact ⟨_, rfl, hbr3, by rw [hf.out]; exact Hse.out.at hb3⟩
end Go.Proofs.YtbcambjonjhopaaGreat
