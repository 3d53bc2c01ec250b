/-
  Layer 2: the document's Idem and May.
-/
import Derived.Test.YtgfiaddldmmjiaaSuD
namespace Go.Proofs.Ytgfiaddldmmjiaa
open Go Go.RowKit

/-- Does no variable stand in what is put in? -/
def hitS (s : List Bnd) (c : Cell) : Bool := decide (c.kind = 1) && decide (0 ≤ placeS s c.n)
def idemS (s : List Bnd) : Bool := s.all fun b => b.t.all fun c => !hitS s c

set_option maxHeartbeats 1600000 in
set_option maxRecDepth 100000 in
theorem IdemR_spec {S : Nat → Prop} {w : World} {v : Value} {s : List Bnd} (hs : Seq bindE S w v s) :
    Calls Try.prog 26 #[v] w (RetV (.bool (idemS s)) w) := by
  have Hs := Lib.hid hs
  obtain ⟨sa, sc, rfl, -, -, hsl, -, s5⟩ := hs.bnd
  have hsf := fun {w' : World} (h : Below w.heap.size w w') => Lib.hid (s5.below h fun _ h _ => h.2 : SeqAt bindE _ w' sa s)
  clear s5 hs
  go_enter Try.func26, Try.ntmps26
  go_wp2_with fail
  go_loopw [3] (fun i wr => ∃ k : Nat, k ≤ s.length ∧ i = .int .i64 k ∧ Hid (∀ b ∈ s.take k, (b.t.all fun c => !hitS s c) = true) ∧ Below w.heap.size w wr) (fun i _ => s.length - (intOf i).toNat)
  case atStart => exact ⟨0, Nat.zero_le _, rfl, Lib.hid (by simp), Below.refl _ _⟩
  case round =>
    obtain ⟨k, hk, rfl, hM, hbel⟩ := hrel
    obtain ⟨wx, rfl⟩ : ∃ wx, wx = wr := ⟨_, rfl⟩
    have Hb := Lib.hid hbel
    have hzr := hbel.size
    by_cases hlt : k < s.length
    · obtain ⟨b, off, ta, tc, rfl, -, hb, c0, c1, ok0, hX⟩ := (hsf hbel).out.bnd2 hlt
      have HX := Lib.hid hX
      obtain ⟨_, _, ee, -, -, hxl, -, x5⟩ := hX.bnd
      simp only [Value.slice.injEq, true_and] at ee
      obtain ⟨rfl, rfl⟩ := ee
      have hxf := fun {w' : World} (h : Below wx.heap.size wx w') => Lib.hid (x5.below h fun _ h _ => h.2 : SeqAt cellE _ w' ta s[k].t)
      have hyes := Lib.hid (show (s[k].t.all fun c => !hitS s c) = true → ∀ b ∈ s.take (k + 1), (b.t.all fun c => !hitS s c) = true from fun h b hb => by
        rw [List.take_succ_eq_append_getElem hlt] at hb
        rcases List.mem_append.1 hb with hb | hb
        · exact hM.out b hb
        · rw [List.mem_singleton] at hb; rw [hb]; exact h)
      have hnot := Lib.hid (show ∀ c ∈ s[k].t, hitS s c = true → idemS s = false from fun c hc h => by
        unfold idemS
        rw [List.all_eq_false]
        refine ⟨s[k], List.getElem_mem hlt, ?_⟩
        rw [Bool.not_eq_true, List.all_eq_false]
        exact ⟨c, hc, by rw [h]; simp⟩)
      have hkl : (k : Int) < (s.length : Int) := by omega
      have hk0 : (0 : Int) ≤ (k : Int) := by omega
      have HK := fun {W : World} (hW : Below wx.heap.size wx W) => Lib.hid (show W.cell? ⟨b, off + k * 2 + 1, none⟩ = some (.slice ta s[k].t.length tc) from (hW.cell (p := ⟨b, off + k * 2 + 1, none⟩) hb).trans c1)
      obtain ⟨x, hx⟩ : ∃ x, x = s[k].t := ⟨_, rfl⟩
      rw [← hx] at hyes hnot hxl HX
      simp only [← hx] at HK hxf
      clear hx hsf hX x5 hM c0 c1 ok0
      go_wp2_with fail
      go_loopw [4] (fun i wy => ∃ j : Nat, j ≤ x.length ∧ i = .int .i64 j ∧ Hid (∀ c ∈ x.take j, hitS s c = false) ∧ Below wx.heap.size wx wy) (fun i _ => x.length - (intOf i).toNat)
      case atStart => exact ⟨0, Nat.zero_le _, rfl, Lib.hid (by simp), Below.refl _ _⟩
      case round =>
        obtain ⟨j, hj, rfl, hN, hby⟩ := hrel
        have Hby := Lib.hid hby
        have zy := hby.size
        have c1 := (HK hby).out
        have hbw := below_step hby Hb.out
        by_cases hltj : j < x.length
        · obtain ⟨b2, o2, rfl, -, hb2, d0, d1, d2, okd, okn, oks⟩ := (hxf hby).out.cell hltj
          have hyc := Lib.hid (show hitS s x[j] = false → ∀ c ∈ x.take (j + 1), hitS s c = false from fun h c hc => by
            rw [List.take_succ_eq_append_getElem hltj] at hc
            rcases List.mem_append.1 hc with hc | hc
            · exact hN.out c hc
            · rw [List.mem_singleton] at hc; rw [hc]; exact h)
          have hnc := Lib.hid (hnot.out x[j] (List.getElem_mem hltj))
          obtain ⟨c, hc⟩ : ∃ c, c = x[j] := ⟨_, rfl⟩
          rw [← hc] at d0 d1 d2 okd okn oks hyc hnc
          have hjl : (j : Int) < (x.length : Int) := by omega
          have hj0 : (0 : Int) ≤ (j : Int) := by omega
          clear hc hnot hN hxf
          by_cases hkd : c.kind = 1
          · go_wp2_with fail
            refine (place_spec (n := c.n) (Hs.out.at (Seq.way : Below w.heap.size w _))).mono ?_
            rintro e _ ⟨rfl, rfl⟩
            by_cases hp : 0 ≤ placeS s c.n
            · have hr := Lib.hid (hnc.out (by unfold hitS; simp [hkd, hp]))
              clear hyc hnc
              go_wp2_with fail
              go_ret
              exact ⟨ret_bool hr.out.symm, (Seq.way : Below w.heap.size w _)⟩
            · have hr := Lib.hid (hyc.out (by unfold hitS; simp [hkd, hp]))
              clear hyc hnc
              go_wp2_with fail
              go_roundw
              case rel => exact ⟨j + 1, hltj, by go_num, hr, (Seq.way : Below wx.heap.size wx _)⟩
              case measure => simp [intOf]; omega
          · have hr := Lib.hid (hyc.out (by unfold hitS; simp [hkd]))
            have hkd' : (c.kind == 1) = false := by simpa using hkd
            clear hyc hnc
            go_wp2_with fail
            go_roundw
            case rel => exact ⟨j + 1, hltj, by go_num, hr, (Seq.way : Below wx.heap.size wx _)⟩
            case measure => simp [intOf]; omega
        · obtain rfl : j = x.length := by omega
          have hr := Lib.hid (hyes.out (by rw [List.all_eq_true]; intro c hc; rw [hN.out c (by rw [List.take_length]; exact hc)]; rfl))
          clear hnot hyes hN
          go_wp2_with fail
          go_roundw
          case rel => exact ⟨k + 1, hlt, by go_num, hr, hbw⟩
          case measure => simp [intOf]; omega
    · obtain rfl : k = s.length := by omega
      have hr := Lib.hid (show idemS s = true by unfold idemS; rw [List.all_eq_true]; intro b hb; exact hM.out b (by rw [List.take_length]; exact hb))
      go_wp2_with fail
      go_ret
      exact ⟨ret_bool hr.out.symm, Hb.out⟩


def mayS (s : List Bnd) (t : List Cell) : Bool := decide (t.length ≤ 300) && fewS s && rightS s && rightT t
theorem May_spec {S T : Nat → Prop} {w : World} {v u : Value} {s : List Bnd} {t : List Cell} (hs : Seq bindE S w v s) (ht : Seq cellE T w u t) :
    Calls Try.prog 16 #[v, u] w (RetV (.bool (mayS s t)) w) := by
  have Hs := Lib.hid hs
  have Ht := Lib.hid ht
  have hm := Lib.hid (show mayS s t = (decide (t.length ≤ 300) && fewS s && rightS s && rightT t) from rfl)
  obtain ⟨sa, sc, rfl, -⟩ := hs
  obtain ⟨ta, tc, rfl, -⟩ := ht
  go_enter Try.func16, Try.ntmps16
  by_cases hl : t.length ≤ 300
  · have hl' : (t.length : Int) ≤ 300 := by omega
    rw [decide_eq_true hl] at hm
    clear hl
    go_wp2_with fail
    refine (few_spec Hs.out).mono ?_
    rintro e _ ⟨rfl, rfl⟩
    cases hf : fewS s
    · rw [hf] at hm
      go_wp2_with fail
      go_ret
      exact ⟨ret_bool (by rw [hm.out]; rfl), Seq.way⟩
    · rw [hf] at hm
      go_wp2_with fail
      refine (RightS_spec Hs.out).mono ?_
      rintro e w1 ⟨rfl, hb1⟩
      cases hr : rightS s
      · rw [hr] at hm
        go_wp2_with fail
        go_ret
        exact ⟨ret_bool (by rw [hm.out]; rfl), hb1⟩
      · rw [hr] at hm
        go_wp2_with fail
        refine (RightR_spec (Ht.out.at hb1)).mono ?_
        rintro e w2 ⟨rfl, hb2⟩
        go_wp2_with fail
        go_ret
        exact ⟨ret_bool (by rw [hm.out]; rfl), below_step hb2 hb1⟩
  · have hl' : ¬ (t.length : Int) ≤ 300 := by omega
    rw [decide_eq_false hl] at hm
    clear hl
    go_wp2_with fail
    go_ret
    exact ⟨ret_bool (by rw [hm.out]; rfl), Seq.way⟩
end Go.Proofs.Ytgfiaddldmmjiaa
