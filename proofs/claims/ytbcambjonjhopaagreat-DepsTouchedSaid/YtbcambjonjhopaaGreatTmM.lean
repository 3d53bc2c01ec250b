/-
  R12: Right, Row.
  R12: Row.
-/
import Derived.Test.YtbcambjonjhopaaGreatTmK
import Derived.Test.YtbcambjonjhopaaGreatRun
namespace Go.Proofs.YtbcambjonjhopaaGreat
section
open Go Go.RowKit

def okAt (l : List (List Cell)) (i : Nat) : Bool := match l[i]? with
  | none => true
  | some t => factT t && (i == 0 || match l[i - 1]? with
    | none => true
    | some s => decide (cmpR s t < 0))
def rowR (l : List (List Cell)) : Bool := decide (l.length ≤ 512) && (List.range l.length).all (okAt l)
theorem rowR_no {l : List (List Cell)} {k : Nat} (hk : k < l.length) (h : okAt l k = false) : rowR l = false := by
  unfold rowR
  have : (List.range l.length).all (okAt l) = false := by
    rw [List.all_eq_false]
    exact ⟨k, List.mem_range.2 hk, by simp [h]⟩
  rw [this]; simp
theorem rowR_yes {l : List (List Cell)} (hl : l.length ≤ 512) (h : ∀ k, k < l.length → okAt l k = true) : rowR l = true := by
  unfold rowR
  rw [decide_eq_true hl, Bool.true_and, List.all_eq_true]
  exact fun k hk => h k (List.mem_range.1 hk)
theorem okAt_zero {l : List (List Cell)} (h : 0 < l.length) : okAt l 0 = factT l[0] := by
  unfold okAt
  rw [List.getElem?_eq_getElem h]; simp
theorem okAt_succ {l : List (List Cell)} {k : Nat} (h : k + 1 < l.length) : okAt l (k + 1) = (factT l[k + 1] && decide (cmpR l[k] l[k + 1] < 0)) := by
  unfold okAt
  rw [List.getElem?_eq_getElem h]
  simp only [Nat.add_sub_cancel]
  rw [List.getElem?_eq_getElem (by omega)]
  have : (k + 1 == 0) = false := by simp
  rw [this, Bool.false_or]


end
section
open Go Go.RowKit

def rowM (l : List (List Cell)) (k : Nat) : List (List Cell) := (l.take k).foldl (fun o t => addO o (factM t)) []
theorem rowM_succ {l : List (List Cell)} {k : Nat} (hk : k < l.length) : rowM l (k + 1) = addO (rowM l k) (factM l[k]) := by
  unfold rowM
  rw [List.take_succ_eq_append_getElem hk, List.foldl_append]; rfl
def rowF (l : List (List Cell)) (most : Nat) : List (List Cell) := rowM l (min l.length (min most 512))

set_option maxHeartbeats 1600000 in
set_option maxRecDepth 100000 in
theorem RowR_spec {S : Nat → Prop} {w : World} {v : Value} {l : List (List Cell)} {most : Nat} (hl : Seq (seqE cellE) S w v l) (hm : most ≤ 1000000) :
    Calls Tryz.prog 10 #[v, .int .i64 most] w (Ret (fun r w' => Seq (seqE cellE) (fun b => w.heap.size ≤ b) w' r (rowF l most)) w) := by
  obtain ⟨aa, ac, rfl, -, -, hal, -, h5⟩ := hl
  obtain ⟨n, hn⟩ : ∃ n, n = min l.length (min most 512) := ⟨_, rfl⟩
  have hfin := Lib.hid (show rowF l most = rowM l n by rw [hn]; rfl)
  have hn1 : n ≤ l.length := by omega
  have hn2 : n ≤ most := by omega
  have hn3 : n ≤ 512 := by omega
  have hn4 := Lib.hid (show ∀ k, ¬ k < n → k ≤ n → ¬ (k < l.length ∧ k < most ∧ k < 512) by omega)
  clear hn
  go_enter Tryz.func10, Tryz.ntmps10
  go_wp2_with fail
  go_loopw [5, 6] (fun o i wr => ∃ k : Nat, k ≤ n ∧ i = .int .i64 k ∧ Seq (seqE cellE) (fun b => w.heap.size ≤ b) wr o (rowM l k) ∧ Below w.heap.size w wr) (fun _ i _ => n - (intOf i).toNat)
  case atStart => exact ⟨0, Nat.zero_le _, rfl, (Own.lit0 (S := fun _ => False) (e := 40) (w := w) rfl (Nat.le_refl _) rfl).seq (by simp) (fun b _ hb => hb.elim False.elim id), Seq.way⟩
  case round =>
    obtain ⟨k, hk, rfl, hout, hbr⟩ := hrel
    have hzr := hbr.size
    have Hout := Lib.hid hout
    obtain ⟨oa, oc, rfl⟩ := hout.shape
    by_cases hlt : k < n
    · have hkl' : k < l.length := by omega
      obtain ⟨b1, o1, p1, n1, rfl, -, l1, c0, hX⟩ := (h5.below hbr fun _ _ h => h).seq hkl'
      have hst := Lib.hid (rowM_succ hkl')
      have HX := Lib.hid hX
      obtain ⟨x, hx⟩ : ∃ x, x = l[k] := ⟨_, rfl⟩
      rw [← hx] at c0 HX hst
      clear hx h5 hX hout
      have hkl : (k : Int) < (l.length : Int) := by omega
      have hk0 : (0 : Int) ≤ (k : Int) := by omega
      have hkm : (k : Int) < (most : Int) := by omega
      have hk5 : (k : Int) < 512 := by omega
      go_wp2_with fail
      refine (MadeR_spec HX.out).mono ?_
      rintro e w1 ⟨v1, rfl, hb1, hs1⟩
      have hbr1 := below_step hb1 hbr
      have Hs1 := Lib.hid (hs1.mono (T := fun b => w.heap.size ≤ b) (fun b h _ => Nat.le_trans hzr h) fun _ _ _ => rfl)
      obtain ⟨p2, n2, rfl, -⟩ := hs1
      go_wp2_with fail
      refine (AddR_spec (Hout.out.at hb1) Hs1.out).mono ?_
      rintro e w2 ⟨o2, rfl, hb2, hs2⟩
      have hbr2 := below_step hb2 hbr1
      have hz1 := hbr1.size
      rw [← hst.out] at hs2
      have Hs2 := Lib.hid (hs2.mono (T := fun b => w.heap.size ≤ b) (fun b h _ => h.elim (fun h => h.elim id id) fun h => Nat.le_trans hz1 h) fun _ _ _ => rfl)
      obtain ⟨p3, n3, rfl, -⟩ := hs2
      go_wp2_with fail
      go_roundw
      case rel => exact ⟨k + 1, hlt, by go_num, Hs2.out, hbr2⟩
      case measure => simp [intOf]; omega
    · have hno := hn4.out k hlt hk
      obtain rfl : k = n := by omega
      have hout2 : ∀ (h : True), True := fun h => h
      clear hout2 h5
      by_cases e1 : k < l.length
      · by_cases e2 : k < most
        · have e3 : ¬ k < 512 := fun e3 => hno ⟨e1, e2, e3⟩
          go_wp2_with fail
          go_ret
          exact ⟨_, rfl, hbr, by rw [hfin.out]; exact Hout.out⟩
        · go_wp2_with fail
          go_ret
          exact ⟨_, rfl, hbr, by rw [hfin.out]; exact Hout.out⟩
      · go_wp2_with fail
        go_ret
        exact ⟨_, rfl, hbr, by rw [hfin.out]; exact Hout.out⟩
end
end Go.Proofs.YtbcambjonjhopaaGreat
