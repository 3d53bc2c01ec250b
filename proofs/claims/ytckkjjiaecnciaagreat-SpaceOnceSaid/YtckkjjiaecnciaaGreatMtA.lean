/-
  Right bindings; slices.Index and slices.Contains at ints; term.Vars; subst.Right (drawn from layer 2).
-/
import Derived.Test.YtckkjjiaecnciaaGreatSuC
import Derived.Test.YtckkjjiaecnciaaGreatTmQ
namespace Go.Proofs.YtckkjjiaecnciaaGreat
open Go Go.RowKit

def okS (last : Int) (b : Bnd) : Bool := decide (last < b.var) && decide (b.var ≤ 999) && rightT b.t && !isV b.var b.t

/-- Right, from a variable on. -/
def rightAt : Int → List Bnd → Bool
  | _, [] => true
  | last, b :: s => okS last b && rightAt b.var s

def rightS (s : List Bnd) : Bool := rightAt (-1) s

def lastO (s : List Bnd) : Nat → Int
  | 0 => -1
  | m + 1 => (s[m]?.map (·.var)).getD (-1)

theorem lastO_succ {s : List Bnd} {k : Nat} (h : k < s.length) : lastO s (k + 1) = s[k].var := by
  show (s[k]?.map (·.var)).getD (-1) = _
  rw [List.getElem?_eq_getElem h]; rfl

/-- How far Right has come. -/
def RightM (s : List Bnd) (k : Nat) : Prop := rightS s = rightAt (lastO s k) (s.drop k) ∧ -1 ≤ lastO s k

theorem rightM_zero (s : List Bnd) : RightM s 0 := ⟨rfl, by show (-1 : Int) ≤ -1; omega⟩

theorem rightAt_step {s : List Bnd} {k : Nat} (hk : k < s.length) (last : Int) : rightAt last (s.drop k) = (okS last s[k] && rightAt s[k].var (s.drop (k + 1))) := by
  rw [List.drop_eq_getElem_cons hk]; rfl

theorem rightM_yes {s : List Bnd} {k : Nat} (hk : k < s.length) (h : RightM s k) (ho : okS (lastO s k) s[k] = true) : RightM s (k + 1) := by
  refine ⟨?_, ?_⟩
  · rw [h.1, rightAt_step hk, ho, Bool.true_and, lastO_succ hk]
  · have h2 := h.2
    rw [lastO_succ hk]
    unfold okS at ho
    simp only [Bool.and_eq_true, decide_eq_true_eq] at ho
    omega

theorem rightM_no {s : List Bnd} {k : Nat} (hk : k < s.length) (h : RightM s k) (ho : okS (lastO s k) s[k] = false) : rightS s = false := by
  rw [h.1, rightAt_step hk, ho, Bool.false_and]

theorem rightM_end {s : List Bnd} (h : RightM s s.length) : rightS s = true := by
  rw [h.1, List.drop_length]; rfl

def idxI (l : List Int) (n : Int) : Int := match l.findIdx? (fun x => decide (x = n)) with
  | some k => (k : Int)
  | none => -1

theorem IndexI_spec {S : Nat → Prop} {w : World} {v : Value} {l : List Int} {n : Int} (hl : Seq intE S w v l) :
    Calls Tryz.prog 61 #[v, .int .i64 n] w (PureV (.int .i64 (idxI l n)) w) := by
  obtain ⟨ao, cap, rfl, h1, h2, h3, -, h5⟩ := hl
  go_enter Tryz.func61, Tryz.ntmps61
  go_wp2_with fail
  go_loopw [8] (fun i wr => ∃ k : Nat, k ≤ l.length ∧ i = .int .i64 k ∧ Hid (∀ i (h : i < l.length), i < k → l[i] ≠ n) ∧ w = wr) (fun i _ => l.length - (intOf i).toNat)
  case atStart => exact ⟨0, Nat.zero_le _, rfl, Lib.hid (fun i _ h => absurd h (Nat.not_lt_zero _)), rfl⟩
  case round =>
    obtain ⟨k, hk, rfl, hno, rfl⟩ := hrel
    by_cases hlt : k < l.length
    · obtain ⟨b, off, rfl, -, -, c0, -⟩ := h5.int hlt
      have hy := Lib.hid (show l[k] = n → (idxI l n) = (k : Int) from fun h => by
        unfold idxI
        rw [List.findIdx?_eq_some_iff_getElem.2 ⟨hlt, by simpa using h, fun j hj => by simpa using hno.out j (by omega) hj⟩])
      have hz := Lib.hid (show l[k] ≠ n → ∀ i (h : i < l.length), i < k + 1 → l[i] ≠ n from fun h i hi hlt => by
        by_cases e : i = k
        · subst e; exact h
        · exact hno.out i hi (by omega))
      obtain ⟨x, hx⟩ : ∃ x, x = l[k] := ⟨_, rfl⟩
      rw [← hx] at c0 hy hz
      clear hx h5
      have hkl : (k : Int) < (l.length : Int) := by omega
      have hk0 : (0 : Int) ≤ (k : Int) := by omega
      by_cases he : x = n
      · have hy' := Lib.hid (hy.out he)
        have he' : (n == x) = true := by simp [he]
        clear hy hz he
        go_wp2_with fail
        go_ret
        exact ⟨ret_int hy'.out.symm, rfl⟩
      · have hz' := Lib.hid (hz.out he)
        have he' : (n == x) = false := by simp [Ne.symm he]
        clear hy hz he
        go_wp2_with fail
        go_roundw
        case rel => exact ⟨k + 1, hlt, by go_num, hz', trivial⟩
        case measure => simp [intOf]; omega
    · obtain rfl : k = l.length := by omega
      have hd := Lib.hid (show (idxI l n) = -1 from by
        unfold idxI
        rw [List.findIdx?_eq_none_iff.2 fun x hx => by
          obtain ⟨i, hi, rfl⟩ := List.mem_iff_getElem.1 hx
          simpa using hno.out i hi hi])
      go_wp2_with fail
      go_ret
      exact ⟨ret_int hd.out.symm, rfl⟩

theorem findI_mem (l : List Int) (n : Int) : decide ((0 : Int) ≤ (idxI l n)) = decide (n ∈ l) := by
  unfold idxI
  rcases h : l.findIdx? (fun x => decide (x = n)) with _ | k
  · have := List.findIdx?_eq_none_iff.1 h
    rw [Bool.eq_iff_iff, decide_eq_true_iff, decide_eq_true_iff]
    constructor
    · intro h; simp at h
    · intro h; have := this n h; simp at this
  · obtain ⟨h1, h2, -⟩ := List.findIdx?_eq_some_iff_getElem.1 h
    rw [Bool.eq_iff_iff, decide_eq_true_iff, decide_eq_true_iff]
    constructor
    · intro _
      have : l[k] = n := by simpa using h2
      exact this ▸ List.getElem_mem h1
    · intro _; dsimp only; omega

theorem ContainsI_spec {S : Nat → Prop} {w : World} {v : Value} {l : List Int} {n : Int} (hl : Seq intE S w v l) :
    Calls Tryz.prog 90 #[v, .int .i64 n] w (PureV (.bool (decide (n ∈ l))) w) := by
  have Hl := Lib.hid hl
  have hm := Lib.hid (findI_mem l n)
  obtain ⟨ao, cap, rfl, -⟩ := hl
  go_enter Tryz.func90, Tryz.ntmps90
  go_wp2_with fail
  refine (IndexI_spec (n := n) Hl.out).mono ?_
  rintro e _ ⟨rfl, rfl⟩
  obtain ⟨m, hmm⟩ : ∃ m, m = (idxI l n) := ⟨_, rfl⟩
  rw [← hmm] at hm ⊢
  clear hmm
  go_wp2_with fail
  go_ret
  exact ⟨ret_bool hm.out, rfl⟩

set_option maxHeartbeats 800000 in
set_option maxRecDepth 100000 in
theorem VarsP_spec {S : Nat → Prop} {w : World} {v : Value} {t : List Cell} (ht : Seq cellE S w v t) (hlen : t.length ≤ 1000000000) :
    Calls Tryz.prog 58 #[v] w (Ret (fun r w' => Seq intE (fun b => w.heap.size ≤ b) w' r (varsL t)) w) := by
  obtain ⟨ao, cap, rfl, h1, h2, h3, h4, h5⟩ := ht
  go_enter Tryz.func58, Tryz.ntmps58
  go_wp2_with fail
  go_loopw [3, 8] (fun o i wr => ∃ k : Nat, k ≤ t.length ∧ i = .int .i64 k ∧ Own intE (fun _ => False) w.heap.size 3 wr o (varsL (t.take k)) ∧ Below w.heap.size w wr) (fun _ i _ => t.length - (intOf i).toNat)
  case atStart =>
    exact ⟨0, Nat.zero_le _, rfl, Own.nil _ _ _ _ _, Below.refl _ _⟩
  case round =>
    obtain ⟨k, hk, rfl, hown, hbel⟩ := hrel
    have hsz : w.heap.size ≤ wr.heap.size := hbel.size
    have hln := varsL_len (t.take k)
    simp at hln
    have Hb := Lib.hid hbel
    by_cases hlt : k < t.length
    · obtain ⟨b, off, rfl, hS, hb, c0, c1, c2, ok0, ok2, -⟩ := (h5.below hbel fun _ _ h => h).cell hlt
      have hsn := Lib.hid (varsL_snoc hlt)
      have hsv : Seq intE (fun _ => True) wr _ (varsL (t.take k)) := hown.seq (by omega) fun _ _ _ => trivial
      obtain ⟨p, n, rfl, -⟩ := id hsv
      have Hsv := Lib.hid hsv
      have Hown := Lib.hid hown
      obtain ⟨c, hc⟩ : ∃ c, c = t[k] := ⟨_, rfl⟩
      rw [← hc] at c0 c1 c2 ok2 hsn
      clear hc h5 hown hsv
      have hkl : (k : Int) < (t.length : Int) := by omega
      have hk0 : (0 : Int) ≤ (k : Int) := by omega
      by_cases hkd : c.kind = 1
      · go_wp2_with fail
        refine (ContainsI_spec (n := c.n) (Hsv.out.at Seq.way)).mono ?_
        rintro e _ ⟨rfl, rfl⟩
        by_cases hi : c.n ∈ varsL (t.take k)
        · have hi' : decide (c.n ∈ varsL (t.take k)) = true := decide_eq_true hi
          rw [hi']
          have hs' := Lib.hid (show varsL (t.take (k + 1)) = varsL (t.take k) by rw [hsn.out]; unfold varsTo; rw [if_neg (by simp [hi])])
          clear hi' hi
          go_wp2_with fail
          go_roundw
          case rel => exact ⟨k + 1, hlt, by go_num, by rw [hs'.out]; exact Hown.out.move Seq.way, Seq.way⟩
          case measure => simp [intOf]; omega
        · have hi' : decide (c.n ∈ varsL (t.take k)) = false := decide_eq_false hi
          rw [hi']
          have hs' := Lib.hid (show varsL (t.take (k + 1)) = varsL (t.take k) ++ [c.n] by rw [hsn.out]; unfold varsTo; rw [if_pos ⟨hkd, hi⟩])
          clear hi' hi
          go_wp2_with (at_builtin; refine wpList_app_int (wm := wr) rfl _ _ 33 rfl Tryz.underlying33 infoInt rfl Hown.out rfl (y := c.n) Seq.way ok2 ?_ ?_ ?_ ?_)
          · go_simp
          · omega
          · exact hsz
          · intro ao cap w' hown' hkept
            have H' := Lib.hid hown'
            have K' := Lib.hid (hbel.trans (Below.trans Seq.way hkept.below))
            clear hown' hkept
            go_wp2_with fail
            go_roundw
            case rel => exact ⟨k + 1, hlt, by go_num, by rw [hs'.out]; simpa using H'.out, K'.out⟩
            case measure => simp [intOf]; omega
      · have hs' := Lib.hid (show varsL (t.take (k + 1)) = varsL (t.take k) by rw [hsn.out]; unfold varsTo; rw [if_neg (by simp [hkd])])
        have hkd' : (c.kind == 1) = false := by simpa using hkd
        go_wp2_with fail
        go_roundw
        case rel => exact ⟨k + 1, hlt, by go_num, by rw [hs'.out]; exact Hown.out.move Seq.way, Seq.way⟩
        case measure => simp [intOf]; omega
    · obtain rfl : k = t.length := by omega
      go_wp2_with fail
      go_ret
      refine ⟨_, rfl, hbel, ?_⟩
      rw [List.take_length] at hown hln
      exact hown.seq (by omega) fun b _ hb => hb.elim False.elim id

set_option maxHeartbeats 1600000 in
set_option maxRecDepth 100000 in
theorem RightS02_spec {S : Nat → Prop} {w : World} {v : Value} {s : List Bnd} (hs : Seq bindE S w v s) :
    Calls Tryz.prog 87 #[v] w (RetV (.bool (rightS s)) w) := by
  obtain ⟨sa, sc, rfl, -, -, hsl, -, s5⟩ := hs.bnd
  have hsf := fun {w' : World} (h : Below w.heap.size w w') => Lib.hid (s5.below h fun _ h _ => h.2 : SeqAt bindE _ w' sa s)
  clear s5 hs
  go_enter Tryz.func87, Tryz.ntmps87
  go_wp2_with fail
  go_loopw [3, 8] (fun l i wr => ∃ k : Nat, k ≤ s.length ∧ i = .int .i64 k ∧ l = .int .i64 (lastO s k) ∧ Hid (RightM s k) ∧ Below w.heap.size w wr) (fun _ i _ => s.length - (intOf i).toNat)
  case atStart => exact ⟨0, Nat.zero_le _, rfl, rfl, Lib.hid (rightM_zero s), Below.refl _ _⟩
  case round =>
    obtain ⟨k, hk, rfl, rfl, hM, hbel⟩ := hrel
    have Hb := Lib.hid hbel
    have hzr := hbel.size
    by_cases hlt : k < s.length
    · obtain ⟨b, off, ta, tc, rfl, -, hb, c0, c1, ok0, hX⟩ := (hsf hbel).out.bnd2 hlt
      have HX := Lib.hid hX
      have hkl : (k : Int) < (s.length : Int) := by omega
      have hk0 : (0 : Int) ≤ (k : Int) := by omega
      have hyes := Lib.hid (fun h => rightM_yes hlt hM.out h)
      have hnot := Lib.hid (fun h => rightM_no hlt hM.out h)
      have hls := Lib.hid (lastO_succ hlt)
      obtain ⟨last, hlast⟩ : ∃ l, l = lastO s k := ⟨_, rfl⟩
      rw [← hlast] at hyes hnot ⊢
      obtain ⟨⟨xa, xt⟩, hc⟩ : ∃ c, c = s[k] := ⟨_, rfl⟩
      rw [← hc] at c0 c1 ok0 hyes hnot HX hls
      dsimp only at c0 c1 ok0 hyes hnot HX hls
      have hz := Lib.hid (show okS last ⟨xa, xt⟩ = (decide (last < xa) && decide (xa ≤ 999) && rightT xt && !isV xa xt) from rfl)
      clear hc hsf hX hM hlast
      by_cases hv0 : xa ≤ last
      · have hr := Lib.hid (hnot.out (by rw [hz.out, decide_eq_false (show ¬ last < xa by omega)]; rfl))
        clear hyes hnot
        go_wp2_with fail
        go_ret
        exact ⟨ret_bool hr.out.symm, (Seq.way : Below w.heap.size w _)⟩
      · by_cases hv1 : 999 < xa
        · have hr := Lib.hid (hnot.out (by rw [hz.out, decide_eq_false (show ¬ xa ≤ 999 by omega)]; simp))
          clear hyes hnot
          go_wp2_with fail
          go_ret
          exact ⟨ret_bool hr.out.symm, (Seq.way : Below w.heap.size w _)⟩
        · have hz2 := Lib.hid (show okS last ⟨xa, xt⟩ = (rightT xt && !isV xa xt) from by
            rw [hz.out, decide_eq_true (show last < xa by omega), decide_eq_true (show xa ≤ 999 by omega)]; rfl)
          go_wp2_with fail
          refine (RightP_spec (HX.out.at Seq.way)).mono ?_
          rintro e w1 ⟨rfl, hb1⟩
          have hr1 := rowTo (Row.new wr [.int .i64 xa, .slice ta xt.length tc] 88 rfl) hb1
          have x0 := hr1.cell (j := 0) (by simp)
          have x1 := hr1.cell (j := 1) (by simp)
          have hbw1 := below_step hb1 (Seq.way : Below wr.heap.size wr _)
          have zz1 := hbw1.size
          simp only [List.getElem_cons_zero, List.getElem_cons_succ] at x0 x1
          cases hr : rightT xt
          · have hx := Lib.hid (hnot.out (by rw [hz2.out, hr]; rfl))
            clear hyes hnot hr
            go_wp2_with fail
            go_ret
            exact ⟨ret_bool hx.out.symm, below_step hbw1 Hb.out⟩
          · go_wp2_with fail
            refine (is_spec (n := xa) (HX.out.at hbw1)).mono ?_
            rintro e w2 ⟨rfl, hq2⟩
            have hb2 := hq2.below w1.heap.size
            have hr2 := rowTo hr1 hb2
            have y0 := hr2.cell (j := 0) (by simp)
            have hbw2 := below_step hb2 hbw1
            simp only [List.getElem_cons_zero] at y0
            clear x0 x1
            cases hv : isV xa xt
            · have hx := Lib.hid (hyes.out (by rw [hz2.out, hr, hv]; rfl))
              clear hyes hnot hr hv
              go_wp2_with fail
              go_roundw
              case rel => exact ⟨k + 1, hlt, by go_num, by rw [hls.out], hx, below_step hbw2 Hb.out⟩
              case measure => simp [intOf]; omega
            · have hx := Lib.hid (hnot.out (by rw [hz2.out, hr, hv]; rfl))
              clear hyes hnot hr hv
              go_wp2_with fail
              go_ret
              exact ⟨ret_bool hx.out.symm, below_step hbw2 Hb.out⟩
    · obtain rfl : k = s.length := by omega
      have hr := Lib.hid (rightM_end hM.out)
      go_wp2_with fail
      go_ret
      exact ⟨ret_bool hr.out.symm, Hb.out⟩
end Go.Proofs.YtckkjjiaecnciaaGreat
