/-
  slices.Index and slices.Contains at ints; term.Vars.
-/
import Derived.Test.YtadbdmnngmlnhaaTmQ
namespace Go.Proofs.Ytadbdmnngmlnhaa
open Go Go.RowKit

def idxI (l : List Int) (n : Int) : Int := match l.findIdx? (fun x => decide (x = n)) with
  | some k => (k : Int)
  | none => -1

theorem IndexI_spec {S : Nat → Prop} {w : World} {v : Value} {l : List Int} {n : Int} (hl : Seq intE S w v l) :
    Calls Try.prog 78 #[v, .int .i64 n] w (PureV (.int .i64 (idxI l n)) w) := by
  obtain ⟨ao, cap, rfl, h1, h2, h3, -, h5⟩ := hl
  go_enter Try.func78, Try.ntmps78
  go_wp2_with fail
  go_loopw [8] (fun i wr => ∃ k : Nat, k ≤ l.length ∧ i = .int .i64 k ∧ Hid (∀ i (h : i < l.length), i < k → l[i] ≠ n) ∧ w = wr) (fun i _ => l.length - (intOf i).toNat)
  case atStart => exact ⟨0, Nat.zero_le _, rfl, Lib.hid (fun i _ h => absurd h (Nat.not_lt_zero _)), rfl⟩
  case round =>
    obtain ⟨k, hk, rfl, hno, rfl⟩ := hrel
    by_cases hlt : k < l.length
    · obtain ⟨b, off, rfl, -, -, c0, -⟩ := h5.int hlt
      have hy := Lib.hid (show l[k] = n → (idxI l n) = (k : Int) from fun h => by
        unfold idxI
        rw [List.findIdx?_eq_some_iff_getElem.2 ⟨hlt, by simpa using h, fun j hj => by simpa using hno.out j (by omega) hj⟩])
      have hz := Lib.hid (show l[k] ≠ n → ∀ i (h : i < l.length), i < k + 1 → l[i] ≠ n from fun h i hi hlt => by
        by_cases e : i = k
        · subst e; exact h
        · exact hno.out i hi (by omega))
      obtain ⟨x, hx⟩ : ∃ x, x = l[k] := ⟨_, rfl⟩
      rw [← hx] at c0 hy hz
      clear hx h5
      have hkl : (k : Int) < (l.length : Int) := by omega
      have hk0 : (0 : Int) ≤ (k : Int) := by omega
      by_cases he : x = n
      · have hy' := Lib.hid (hy.out he)
        have he' : (n == x) = true := by simp [he]
        clear hy hz he
        go_wp2_with fail
        go_ret
        exact ⟨ret_int hy'.out.symm, rfl⟩
      · have hz' := Lib.hid (hz.out he)
        have he' : (n == x) = false := by simp [Ne.symm he]
        clear hy hz he
        go_wp2_with fail
        go_roundw
        case rel => exact ⟨k + 1, hlt, by go_num, hz', trivial⟩
        case measure => simp [intOf]; omega
    · obtain rfl : k = l.length := by omega
      have hd := Lib.hid (show (idxI l n) = -1 from by
        unfold idxI
        rw [List.findIdx?_eq_none_iff.2 fun x hx => by
          obtain ⟨i, hi, rfl⟩ := List.mem_iff_getElem.1 hx
          simpa using hno.out i hi hi])
      go_wp2_with fail
      go_ret
      exact ⟨ret_int hd.out.symm, rfl⟩

theorem findI_mem (l : List Int) (n : Int) : decide ((0 : Int) ≤ (idxI l n)) = decide (n ∈ l) := by
  unfold idxI
  rcases h : l.findIdx? (fun x => decide (x = n)) with _ | k
  · have := List.findIdx?_eq_none_iff.1 h
    rw [Bool.eq_iff_iff, decide_eq_true_iff, decide_eq_true_iff]
    constructor
    · intro h; simp at h
    · intro h; have := this n h; simp at this
  · obtain ⟨h1, h2, -⟩ := List.findIdx?_eq_some_iff_getElem.1 h
    rw [Bool.eq_iff_iff, decide_eq_true_iff, decide_eq_true_iff]
    constructor
    · intro _
      have : l[k] = n := by simpa using h2
      exact this ▸ List.getElem_mem h1
    · intro _; dsimp only; omega

theorem ContainsI_spec {S : Nat → Prop} {w : World} {v : Value} {l : List Int} {n : Int} (hl : Seq intE S w v l) :
    Calls Try.prog 66 #[v, .int .i64 n] w (PureV (.bool (decide (n ∈ l))) w) := by
  have Hl := Lib.hid hl
  have hm := Lib.hid (findI_mem l n)
  obtain ⟨ao, cap, rfl, -⟩ := hl
  go_enter Try.func66, Try.ntmps66
  go_wp2_with fail
  refine (IndexI_spec (n := n) Hl.out).mono ?_
  rintro e _ ⟨rfl, rfl⟩
  obtain ⟨m, hmm⟩ : ∃ m, m = (idxI l n) := ⟨_, rfl⟩
  rw [← hmm] at hm ⊢
  clear hmm
  go_wp2_with fail
  go_ret
  exact ⟨ret_bool hm.out, rfl⟩

set_option maxHeartbeats 800000 in
set_option maxRecDepth 100000 in
theorem VarsP_spec {S : Nat → Prop} {w : World} {v : Value} {t : List Cell} (ht : Seq cellE S w v t) (hlen : t.length ≤ 1000000000) :
    Calls Try.prog 41 #[v] w (Ret (fun r w' => Seq intE (fun b => w.heap.size ≤ b) w' r (varsL t)) w) := by
  obtain ⟨ao, cap, rfl, h1, h2, h3, h4, h5⟩ := ht
  go_enter Try.func41, Try.ntmps41
  go_wp2_with fail
  go_loopw [3, 8] (fun o i wr => ∃ k : Nat, k ≤ t.length ∧ i = .int .i64 k ∧ Own intE (fun _ => False) w.heap.size 3 wr o (varsL (t.take k)) ∧ Below w.heap.size w wr) (fun _ i _ => t.length - (intOf i).toNat)
  case atStart =>
    exact ⟨0, Nat.zero_le _, rfl, Own.nil _ _ _ _ _, Below.refl _ _⟩
  case round =>
    obtain ⟨k, hk, rfl, hown, hbel⟩ := hrel
    have hsz : w.heap.size ≤ wr.heap.size := hbel.size
    have hln := varsL_len (t.take k)
    simp at hln
    have Hb := Lib.hid hbel
    by_cases hlt : k < t.length
    · obtain ⟨b, off, rfl, hS, hb, c0, c1, c2, ok0, ok2, -⟩ := (h5.below hbel fun _ _ h => h).cell hlt
      have hsn := Lib.hid (varsL_snoc hlt)
      have hsv : Seq intE (fun _ => True) wr _ (varsL (t.take k)) := hown.seq (by omega) fun _ _ _ => trivial
      obtain ⟨p, n, rfl, -⟩ := id hsv
      have Hsv := Lib.hid hsv
      have Hown := Lib.hid hown
      obtain ⟨c, hc⟩ : ∃ c, c = t[k] := ⟨_, rfl⟩
      rw [← hc] at c0 c1 c2 ok2 hsn
      clear hc h5 hown hsv
      have hkl : (k : Int) < (t.length : Int) := by omega
      have hk0 : (0 : Int) ≤ (k : Int) := by omega
      by_cases hkd : c.kind = 1
      · go_wp2_with fail
        refine (ContainsI_spec (n := c.n) (Hsv.out.at Seq.way)).mono ?_
        rintro e _ ⟨rfl, rfl⟩
        by_cases hi : c.n ∈ varsL (t.take k)
        · have hi' : decide (c.n ∈ varsL (t.take k)) = true := decide_eq_true hi
          rw [hi']
          have hs' := Lib.hid (show varsL (t.take (k + 1)) = varsL (t.take k) by rw [hsn.out]; unfold varsTo; rw [if_neg (by simp [hi])])
          clear hi' hi
          go_wp2_with fail
          go_roundw
          case rel => exact ⟨k + 1, hlt, by go_num, by rw [hs'.out]; exact Hown.out.move Seq.way, Seq.way⟩
          case measure => simp [intOf]; omega
        · have hi' : decide (c.n ∈ varsL (t.take k)) = false := decide_eq_false hi
          rw [hi']
          have hs' := Lib.hid (show varsL (t.take (k + 1)) = varsL (t.take k) ++ [c.n] by rw [hsn.out]; unfold varsTo; rw [if_pos ⟨hkd, hi⟩])
          clear hi' hi
          go_wp2_with (at_builtin; refine wpList_app_int (wm := wr) rfl _ _ 33 rfl Try.underlying33 infoInt rfl Hown.out rfl (y := c.n) Seq.way ok2 ?_ ?_ ?_ ?_)
          · go_simp
          · omega
          · exact hsz
          · intro ao cap w' hown' hkept
            have H' := Lib.hid hown'
            have K' := Lib.hid (hbel.trans (Below.trans Seq.way hkept.below))
            clear hown' hkept
            go_wp2_with fail
            go_roundw
            case rel => exact ⟨k + 1, hlt, by go_num, by rw [hs'.out]; simpa using H'.out, K'.out⟩
            case measure => simp [intOf]; omega
      · have hs' := Lib.hid (show varsL (t.take (k + 1)) = varsL (t.take k) by rw [hsn.out]; unfold varsTo; rw [if_neg (by simp [hkd])])
        have hkd' : (c.kind == 1) = false := by simpa using hkd
        go_wp2_with fail
        go_roundw
        case rel => exact ⟨k + 1, hlt, by go_num, by rw [hs'.out]; exact Hown.out.move Seq.way, Seq.way⟩
        case measure => simp [intOf]; omega
    · obtain rfl : k = t.length := by omega
      go_wp2_with fail
      go_ret
      refine ⟨_, rfl, hbel, ?_⟩
      rw [List.take_length] at hown hln
      exact hown.seq (by omega) fun b _ hb => hb.elim False.elim id

end Go.Proofs.Ytadbdmnngmlnhaa
