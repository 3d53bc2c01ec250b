/-
  Layer 16, the program: numbers of ground.Cut, its closure that numbers literals anew.
-/
import Derived.Test.YtaedgpcmkagpeaaGreatGsZ
import Derived.Test.YtaedgpcmkagpeaaGreatGsJ
namespace Go.Proofs.YtaedgpcmkagpeaaGreat
open Go Go.RowKit

/-! ### Plain -/
theorem pth_rea {g : Prog} {n x : Nat} : Pth (LeanE g) n x ↔ Rea (edgG g) n x := by
  constructor
  · intro h
    induction h with
    | refl => exact .refl
    | step _ e ih => exact ih.step e
  · intro h
    induction h with
    | refl => exact .refl
    | step _ e ih => exact ih.step e
theorem vis_leads {g : Prog} (h : RightG g) {n : Nat} (hn : n < g.atoms.length) {t : List Nat} (hv : Vis (LeanE g) n [] t) {x : Nat} : x ∈ t ↔ x ∈ leadsG g n := by
  rw [mem_leads h hn, ((Clo.nil (LeanE g)).add hv).iff]
  constructor
  · rintro ⟨r, hr, hp⟩
    obtain rfl : r = n := hr.elim False.elim id
    exact pth_rea.1 hp
  · intro hp
    exact ⟨n, .inr rfl, pth_rea.2 hp⟩
theorem markL_congr {N : Nat} {s t : List Nat} (h : ∀ x, x ∈ s ↔ x ∈ t) : markL N s = markL N t := by
  unfold markL
  apply List.map_congr_left
  intro k _
  by_cases hk : k ∈ s
  · rw [if_pos hk, if_pos ((h k).1 hk)]
  · rw [if_neg hk, if_neg (fun e => hk ((h k).2 e))]
theorem filter_lt_snoc {l : List Nat} (hs : l.Pairwise (· < ·)) {k : Nat} (hk : k ∈ l) : (l.filter fun j => decide (j < k + 1)) = (l.filter fun j => decide (j < k)) ++ [k] := by
  obtain ⟨a, b, rfl⟩ := List.append_of_mem hk
  obtain ⟨-, h2, h3⟩ := List.pairwise_append.1 hs
  have ha : ∀ x ∈ a, x < k := fun x hx => h3 x hx k (by simp)
  have hb : ∀ x ∈ b, k < x := (List.pairwise_cons.1 h2).1
  have e1 : ∀ m, k ≤ m → (a.filter fun j => decide (j < m)) = a := fun m hm => List.filter_eq_self.2 fun x hx => by have := ha x hx; simp; omega
  have e2 : ∀ m, m ≤ k + 1 → (b.filter fun j => decide (j < m)) = [] := fun m hm => List.filter_eq_nil_iff.2 fun x hx => by have := hb x hx; simp; omega
  rw [List.filter_append, List.filter_append, e1 _ (by omega), e1 _ (by omega), List.filter_cons, List.filter_cons, e2 _ (by omega), e2 _ (by omega)]
  simp
theorem filter_lt_same {l : List Nat} {k : Nat} (hk : k ∉ l) : (l.filter fun j => decide (j < k + 1)) = l.filter fun j => decide (j < k) := by
  apply List.filter_congr
  intro x hx
  have : x ≠ k := fun e => hk (e ▸ hx)
  rw [decide_eq_decide]; omega
theorem plcN_lt {l : List Nat} (hs : l.Pairwise (· < ·)) {k : Nat} (hk : k ∈ l) : plcN l (k : Int) = ((l.filter fun j => decide (j < k)).length : Int) := by
  unfold plcN
  rw [if_pos ⟨by simpa using hk, by omega⟩]
  obtain ⟨a, b, rfl⟩ := List.append_of_mem hk
  obtain ⟨-, h2, h3⟩ := List.pairwise_append.1 hs
  have ha : ∀ x ∈ a, x < k := fun x hx => h3 x hx k (by simp)
  have hb : ∀ x ∈ b, k < x := (List.pairwise_cons.1 h2).1
  rw [List.filter_append, List.filter_eq_self.2 fun x hx => by have := ha x hx; simp; omega, List.filter_cons, if_neg (by simp), List.filter_eq_nil_iff.2 fun x hx => by have := hb x hx; simp; omega]
  rw [Int.toNat_natCast, List.idxOf_append, if_neg (fun h => by have := ha k h; omega)]
  simp
theorem plcN_out {l : List Nat} {x : Int} (h : inLN l x = false) : plcN l x = -1 := by
  unfold inLN at h
  rw [decide_eq_false_iff_not] at h
  unfold plcN
  rw [if_neg h]
theorem plcN_in {l : List Nat} {x : Int} (h : inLN l x = true) : 0 ≤ plcN l x ∧ plcN l x < l.length := by
  unfold inLN at h
  rw [decide_eq_true_eq] at h
  unfold plcN
  rw [if_pos h]
  have := List.idxOf_lt_length_of_mem h.1
  omega
theorem plcN_rng (l : List Nat) (x : Int) : -1 ≤ plcN l x ∧ plcN l x < (l.length : Int) := by
  cases h : inLN l x with
  | false => rw [plcN_out h]; omega
  | true => have := plcN_in h; omega
/-- The numbers, the first k written anew. -/
def numK (ls : List Nat) (N k : Nat) : List Int := (List.range N).map fun j => if j < k then plcN ls (j : Int) + 1 else if j ∈ ls then 1 else 0
theorem numK_len (ls : List Nat) (N k : Nat) : (numK ls N k).length = N := by unfold numK; simp
theorem numK_at {ls : List Nat} {N k j : Nat} (hj : j < (numK ls N k).length) : (numK ls N k)[j] = if j < k then plcN ls (j : Int) + 1 else if j ∈ ls then 1 else 0 := by
  have : (numK ls N k)[j]? = some (if j < k then plcN ls (j : Int) + 1 else if j ∈ ls then 1 else 0) := by
    rw [numK_len] at hj
    unfold numK; simp [hj]
  exact (List.getElem?_eq_some_iff.1 this).2
theorem numK_zero (ls : List Nat) (N : Nat) : numK ls N 0 = markL N ls := by
  unfold numK markL; simp
theorem numK_set {ls : List Nat} {N k : Nat} : (numK ls N k).set k (plcN ls (k : Int) + 1) = numK ls N (k + 1) := by
  apply List.ext_getElem
  · rw [List.length_set, numK_len, numK_len]
  · intro i h1 h2
    rw [List.getElem_set, numK_at, numK_at]
    by_cases e : k = i
    · subst e; simp
    · rw [if_neg e]
      by_cases hi : i < k
      · rw [if_pos hi, if_pos (by omega)]
      · rw [if_neg hi, if_neg (show ¬ i < k + 1 by omega)]
theorem numK_same {ls : List Nat} {N k : Nat} (hk : k ∉ ls) : numK ls N k = numK ls N (k + 1) := by
  apply List.ext_getElem
  · rw [numK_len, numK_len]
  · intro i h1 h2
    rw [numK_at, numK_at]
    by_cases e : i = k
    · subst e
      have : inLN ls (i : Int) = false := by unfold inLN; simp [hk]
      rw [if_neg (by omega), if_neg hk, if_pos (by omega), plcN_out this]; rfl
    · by_cases hi : i < k
      · rw [if_pos hi, if_pos (by omega)]
      · rw [if_neg hi, if_neg (show ¬ i < k + 1 by omega)]

/-! ### anew -/
set_option maxHeartbeats 3200000 in
set_option maxRecDepth 100000 in
theorem anewP_spec {S : Nat → Prop} {w : World} {v : Value} {ls : List Nat} {Q : List Int} {L : List Int} {bs Nb N : Nat} (hl : Seq intE S w v L) (hlen : L.length ≤ 1000000)
    (hc : w.cell? ⟨bs, 0, none⟩ = some (.slice (some ⟨Nb, 0, none⟩) N N)) (hlb : bs < w.heap.size) (hlN : Nb < w.heap.size) (hrow : RowI 3 w Nb Q) (hQ : Q = numK ls N N) (hln : ls.length ≤ 100000)
    (hx : ∀ x ∈ L, 0 ≤ x ∧ x < N) :
    Calls Tryz.prog 64 #[v, .pointer (some ⟨bs, 0, none⟩)] w (Ret (fun r w' => Seq intE (fun b => w.heap.size ≤ b) w' r (L.map (plcN ls))) w) := by
  have HL := Lib.hid hl
  have HX := Lib.hid hx
  have HQ := Lib.hid hQ
  have HRow := Lib.hid hrow
  have HC := Lib.hid (fun (X : World) (h : Below w.heap.size w X) => (h.cell (p := ⟨bs, 0, none⟩) hlb).trans hc)
  obtain ⟨la, lc, rfl⟩ := hl.shape
  clear hl hx hQ hrow hc
  go_enter Tryz.func64, Tryz.ntmps64
  go_wp2_with fail
  go_loopw [4, 9] (fun o i wr => ∃ k : Nat, k ≤ L.length ∧ i = .int .i64 k ∧ Hid (Own intE (fun _ => False) w.heap.size 3 wr o ((L.take k).map (plcN ls))) ∧ Hid (Below w.heap.size w wr)) (fun _ i _ => L.length - (intOf i).toNat)
  case atStart => exact ⟨0, Nat.zero_le _, rfl, Lib.hid (Own.nil _ _ _ _ _), Lib.hid (Below.refl _ _)⟩
  case round =>
    obtain ⟨k, hk, rfl, hO, hbr⟩ := hrel
    have hzr := hbr.out.size
    by_cases hlt : k < L.length
    · obtain ⟨_, _, ee, -, -, -, -, x5⟩ := (HL.out.at hbr.out)
      simp only [Value.slice.injEq, true_and] at ee
      obtain ⟨rfl, rfl⟩ := ee
      obtain ⟨b, off, rfl, -, hb, d0, -⟩ := x5.int hlt
      have hst := Lib.hid (map_snoc (plcN ls) hlt)
      have hQl : ((L.take k).map (plcN ls)).length ≤ 1000000 := by rw [List.length_map, List.length_take]; omega
      obtain ⟨O, hO2⟩ : ∃ O, O = (L.take k).map (plcN ls) := ⟨_, rfl⟩
      rw [← hO2] at hO hst hQl
      obtain ⟨hx0, hx1⟩ := HX.out _ (List.getElem_mem hlt)
      obtain ⟨x, hxe⟩ : ∃ x, x = L[k] := ⟨_, rfl⟩
      rw [← hxe] at d0 hst hx0 hx1
      obtain ⟨j, rfl⟩ := Int.eq_ofNat_of_zero_le hx0
      have hjN : j < N := by omega
      have hj1 : (j : Int) < (N : Int) := by omega
      have hj0 : (0 : Int) ≤ (j : Int) := by omega
      have hjt : ((j : Int)).toNat = j := Int.toNat_natCast j
      have d1 := (HRow.out.below hbr.out hlN).cell (j := j) (by rw [HQ.out, numK_len]; exact hjN)
      have hq : Q[j]'(by rw [HQ.out, numK_len]; exact hjN) = plcN ls (j : Int) + 1 := by
        have h1 : Q[j]? = some (plcN ls (j : Int) + 1) := by
          rw [HQ.out, List.getElem?_eq_getElem (by rw [numK_len]; exact hjN), numK_at, if_pos hjN]
        exact (List.getElem?_eq_some_iff.1 h1).2
      rw [hq] at d1
      have hpr := plcN_rng ls (j : Int)
      obtain ⟨p, hp⟩ : ∃ p, p = plcN ls (j : Int) := ⟨_, rfl⟩
      have hst2 := Lib.hid (hst.out.trans (by rw [← hp]))
      rw [← hp] at d1 hpr
      obtain ⟨q, hqe⟩ : ∃ q, q = p + 1 := ⟨_, rfl⟩
      have hwr : wrap64 (q - 1) = p := by unfold wrap64; omega
      rw [← hqe] at d1
      have hpi : IntOK p := ⟨by omega, by omega⟩
      have c0 := HC.out _ hbr.out
      have lb : bs < wr.heap.size := Nat.lt_of_lt_of_le hlb hzr
      have lN : Nb < wr.heap.size := Nat.lt_of_lt_of_le hlN hzr
      have hkl : (k : Int) < (L.length : Int) := by omega
      have hk0 : (0 : Int) ≤ (k : Int) := by omega
      clear x5 hO2 hxe hq hp hpr hst hx0 hx1 hqe
      go_wp2_with (at_builtin; refine wpList_app_int (wm := wr) rfl _ _ 36 rfl Tryz.underlying36 infoInt rfl hO.out rfl (y := p) Seq.way hpi ((Row.new _ [_] _ rfl).cell (j := 0) (by simp)) (by omega) hzr ?_)
      intro ao5 cap5 w5 hown5 hk5
      have H5 := Lib.hid hown5
      have B5 := Lib.hid (hbr.out.trans (Below.trans (Below.mono (Seq.way : Below wr.heap.size wr _) hzr) hk5.below))
      clear hown5 hk5
      go_wp2_with fail
      go_roundw
      case rel => exact ⟨k + 1, hlt, by go_num, Lib.hid (by rw [hst2.out]; simpa using H5.out), B5⟩
      case measure => simp [intOf]; omega
    · obtain rfl : k = L.length := by omega
      have hkl : ¬ (L.length : Int) < (L.length : Int) := by omega
      have hO2 := Lib.hid (show Own intE _ _ _ wr _ (L.map (plcN ls)) by have := hO.out; rwa [List.take_length] at this)
      obtain ⟨O, hOe⟩ : ∃ O, O = L.map (plcN ls) := ⟨_, rfl⟩
      have hOl : O.length ≤ 1000000 := by rw [hOe, List.length_map]; exact hlen
      rw [← hOe] at hO2
      have HO := Lib.hid hOe
      obtain ⟨oa, oc, rfl, -⟩ := hO2.out.shape
      clear hO hOe
      go_wp2_with fail
      go_ret
      exact ⟨_, rfl, hbr.out, by rw [← HO.out]; exact hO2.out.seq (by omega) fun b _ h => h.elim False.elim id⟩
end Go.Proofs.YtaedgpcmkagpeaaGreat
