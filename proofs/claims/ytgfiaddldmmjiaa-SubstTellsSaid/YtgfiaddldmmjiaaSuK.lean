/-
  Layer 2, the program: Idem.
-/
import Derived.Test.YtgfiaddldmmjiaaSuJ
namespace Go.Proofs.Ytgfiaddldmmjiaa
open Go Go.RowKit

theorem hitS_iff {s : List Bnd} {c : Cell} : hitS s c = (decide (c.kind = 1) && (bindS s c.n).isSome) := by
  unfold hitS
  rcases placeS_cases s c.n with ⟨h1, h2⟩ | ⟨k, hk, h1, -, h2⟩
  · rw [h1, h2]; simp
  · rw [h1, h2]; simp
theorem hitS_vars {s : List Bnd} {t : List Cell} : (t.all fun c => !hitS s c) = (varsL t).all fun n => !(bindS s n).isSome := by
  rw [Bool.eq_iff_iff, List.all_eq_true, List.all_eq_true]
  constructor
  · intro h n hn
    obtain ⟨c, hc, hk, rfl⟩ := varsL_mem.1 hn
    have := h c hc
    rw [hitS_iff] at this
    simpa [hk] using this
  · intro h c hc
    rw [hitS_iff]
    by_cases hk : c.kind = 1
    · have := h c.n (varsL_mem.2 ⟨c, hc, hk, rfl⟩)
      simpa [hk] using this
    · simp [hk]

set_option maxHeartbeats 1600000 in
set_option maxRecDepth 100000 in
theorem IdemP_spec {S : Nat → Prop} {w : World} {v : Value} {s : List Bnd} (hs : Seq bindE S w v s) (hne : VarsNe s) (hlen : ∀ b ∈ s, b.t.length ≤ 300) :
    Calls Try.prog 25 #[v] w (RetV (.bool (idemS s)) w) := by
  have Hs := Lib.hid hs
  have Hne := Lib.hid hne
  have Hl := Lib.hid hlen
  obtain ⟨sa, sc, rfl, -, -, hsl, -, s5⟩ := hs.bnd
  have hsf := fun {w' : World} (h : Below w.heap.size w w') => Lib.hid (s5.below h fun _ h _ => h.2 : SeqAt bindE _ w' sa s)
  clear s5 hs hne hlen
  go_enter Try.func25, Try.ntmps25
  go_wp2_with fail
  refine (table_spec Hs.out Hne.out).mono ?_
  rintro e w1 ⟨v1, rfl, hb1, hm1⟩
  have HM := Lib.hid hm1
  obtain ⟨B, nB, D, rfl, -⟩ := hm1
  have Hb1 := Lib.hid hb1
  clear hb1
  go_wp2_with fail
  go_loopw [14] (fun i wr => ∃ k : Nat, k ≤ s.length ∧ i = .int .i64 k ∧ Hid (∀ b ∈ s.take k, (b.t.all fun c => !hitS s c) = true) ∧ Below w1.heap.size w1 wr) (fun i _ => s.length - (intOf i).toNat)
  case atStart => exact ⟨0, Nat.zero_le _, rfl, Lib.hid (by simp), Below.refl _ _⟩
  case round =>
    obtain ⟨k, hk, rfl, hM, hb1r⟩ := hrel
    obtain ⟨wx, rfl⟩ : ∃ wx, wx = wr := ⟨_, rfl⟩
    have hbel := below_step hb1r Hb1.out
    have Hb := Lib.hid hbel
    have hzr := hbel.size
    by_cases hlt : k < s.length
    · obtain ⟨b, off, ta, tc, rfl, -, hb, c0, c1, ok0, hX⟩ := (hsf hbel).out.bnd2 hlt
      have HX := Lib.hid hX
      have hxl := Hl.out _ (List.getElem_mem hlt)
      have hyes := Lib.hid (show (s[k].t.all fun c => !hitS s c) = true → ∀ b ∈ s.take (k + 1), (b.t.all fun c => !hitS s c) = true from fun h b hb => by
        rw [List.take_succ_eq_append_getElem hlt] at hb
        rcases List.mem_append.1 hb with hb | hb
        · exact hM.out b hb
        · rw [List.mem_singleton] at hb; rw [hb]; exact h)
      have hnot := Lib.hid (show (s[k].t.all fun c => !hitS s c) = false → idemS s = false from fun h => by
        unfold idemS
        rw [List.all_eq_false]
        exact ⟨s[k], List.getElem_mem hlt, by rw [h]; simp⟩)
      have hkl : (k : Int) < (s.length : Int) := by omega
      have hk0 : (0 : Int) ≤ (k : Int) := by omega
      obtain ⟨⟨xa, xt⟩, hx⟩ : ∃ x, x = s[k] := ⟨_, rfl⟩
      rw [← hx] at hyes hnot c0 c1 ok0 HX hxl
      dsimp only at hyes hnot c0 c1 ok0 HX hxl
      rw [hitS_vars] at hyes hnot
      clear hx hsf hX hM
      go_wp2_with fail
      refine (VarsP_spec (HX.out.at Seq.way) (by omega)).mono ?_
      rintro e w2 ⟨v2, rfl, hb2, hs2⟩
      have hbx2 := below_step hb2 (Seq.way : Below wx.heap.size wx _)
      have Hb12 := Lib.hid (below_step hbx2 hb1r)
      obtain ⟨va, vc, rfl, -, -, hvl, -, v5⟩ := hs2.bnd
      have hvf := fun {w' : World} (h : Below w2.heap.size w2 w') => Lib.hid (v5.below h fun _ h _ => h.2 : SeqAt intE _ w' va (varsL xt))
      obtain ⟨L, hL⟩ : ∃ L, L = varsL xt := ⟨_, rfl⟩
      rw [← hL] at hyes hnot hvl ⊢
      simp only [← hL] at hvf
      clear hs2 v5 hL hb2
      go_wp2_with fail
      go_loopw [22] (fun i wy => ∃ j : Nat, j ≤ L.length ∧ i = .int .i64 j ∧ Hid (∀ n ∈ L.take j, (bindS s n).isSome = false) ∧ w2 = wy) (fun i _ => L.length - (intOf i).toNat)
      case atStart => exact ⟨0, Nat.zero_le _, rfl, Lib.hid (by simp), rfl⟩
      case round =>
        obtain ⟨j, hj, rfl, hN, rfl⟩ := hrel
        by_cases hltj : j < L.length
        · obtain ⟨b2, o2, rfl, -, hb2, d0, okd⟩ := (hvf (Below.refl _ _)).out.int hltj
          have hyc := Lib.hid (show (bindS s L[j]).isSome = false → ∀ n ∈ L.take (j + 1), (bindS s n).isSome = false from fun h n hn => by
            rw [List.take_succ_eq_append_getElem hltj] at hn
            rcases List.mem_append.1 hn with hn | hn
            · exact hN.out n hn
            · rw [List.mem_singleton] at hn; rw [hn]; exact h)
          have hnc := Lib.hid (show (bindS s L[j]).isSome = true → idemS s = false from fun h => hnot.out (by
            rw [List.all_eq_false]
            exact ⟨L[j], List.getElem_mem hltj, by rw [h]; simp⟩))
          obtain ⟨c, hc⟩ : ∃ c, c = L[j] := ⟨_, rfl⟩
          rw [← hc] at d0 okd hyc hnc
          have hjl : (j : Int) < (L.length : Int) := by omega
          have hj0 : (0 : Int) ≤ (j : Int) := by omega
          clear hc hnot hN hvf
          obtain ⟨B', nB', D', ee, -, hBl, hown, hTab⟩ := HM.out.at Hb12.out
          simp only [Value.map.injEq, Option.some.injEq] at ee
          obtain rfl := ee
          have HO := Lib.hid hown
          cases hbd : bindS s c with
          | none =>
            have hhas := (hTab.2 c).1 hbd
            have hr := Lib.hid (hyc.out (by rw [hbd]; rfl))
            clear hyc hnc hbd hown hTab
            go_wp2_with (at_lookup; refine wpList_look _ rfl _ _ 57 rfl 3 23 (Maps.int_keyed Try.underlying3) Try.underlying57 (zero_slice _) B nB' D' rfl HO.out _ _ rfl (Maps.keyOf_int_mk Try.underlying3 (wf_ok okd)) (Maps.atKey_of_not_has hhas _) hhas ?_)
            go_wp2_with fail
            go_roundw
            case rel => exact ⟨j + 1, hltj, by go_num, hr, trivial⟩
            case measure => simp [intOf]; omega
          | some tb =>
            obtain ⟨hhas, v, hat, hX⟩ := (hTab.2 c).2 tb hbd
            obtain ⟨xa2, xc2, rfl, -⟩ := hX
            have hr := Lib.hid (hnc.out (by rw [hbd]; rfl))
            clear hyc hnc hbd hown hTab
            go_wp2_with (at_lookup; refine wpList_look _ rfl _ _ 57 rfl 3 23 (Maps.int_keyed Try.underlying3) Try.underlying57 (zero_slice _) B nB' D' rfl HO.out _ _ rfl (Maps.keyOf_int_mk Try.underlying3 (wf_ok okd)) (hat _) hhas ?_)
            go_wp2_with fail
            go_ret
            exact ⟨ret_bool hr.out.symm, below_step Hb12.out Hb1.out⟩
        · obtain rfl : j = L.length := by omega
          have hr := Lib.hid (hyes.out (by rw [List.all_eq_true]; intro c hc; rw [hN.out c (by rw [List.take_length]; exact hc)]; rfl))
          clear hnot hyes hN
          go_wp2_with fail
          go_roundw
          case rel => exact ⟨k + 1, hlt, by go_num, hr, Hb12.out⟩
          case measure => simp [intOf]; omega
    · obtain rfl : k = s.length := by omega
      have hr := Lib.hid (show idemS s = true by unfold idemS; rw [List.all_eq_true]; intro b hb; exact hM.out b (by rw [List.take_length]; exact hb))
      go_wp2_with fail
      go_ret
      exact ⟨ret_bool hr.out.symm, Hb.out⟩
end Go.Proofs.Ytgfiaddldmmjiaa
