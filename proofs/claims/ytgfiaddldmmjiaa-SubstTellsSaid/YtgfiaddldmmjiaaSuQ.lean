/-
  Layer 2, the program: Compose.
-/
import Derived.Test.YtgfiaddldmmjiaaSuP
namespace Go.Proofs.Ytgfiaddldmmjiaa
open Go Go.RowKit

theorem restB_len (a b : List Bnd) : (restB a b).length ≤ b.length := fltL_len _ _

set_option maxHeartbeats 4000000 in
set_option maxRecDepth 100000 in
theorem ComposeP_spec {S T : Nat → Prop} {w : World} {v u : Value} {a b : List Bnd} (ha : Seq bindE S w v a) (hb : Seq bindE T w u b) (hna : VarsNe a) (hnb : VarsNe b) (hva : ∀ x ∈ a, 0 ≤ x.var ∧ x.var ≤ 999) (hvb : ∀ x ∈ b, 0 ≤ x.var ∧ x.var ≤ 999)
    (hla : a.length ≤ 100000) (hlb : b.length ≤ 100000) :
    Calls Try.prog 19 #[v, u] w (RetL bindE (Fr T w) (composeL a b) w) := by
  have Ha := Lib.hid ha
  have Hb := Lib.hid hb
  have Hna := Lib.hid hna
  have Hnb := Lib.hid hnb
  have Hva := Lib.hid hva
  have Hvb := Lib.hid hvb
  obtain ⟨aa, ac, rfl, -, -, hal, -, a5⟩ := ha.bnd
  obtain ⟨ba, bc, rfl, -, -, hbl, -, b5⟩ := hb.bnd
  have haf := fun {w' : World} (h : Below w.heap.size w w') => Lib.hid (a5.below h fun _ h _ => h.2 : SeqAt bindE _ w' aa a)
  have hbf := fun {w' : World} (h : Below w.heap.size w w') => Lib.hid (b5.below h fun _ h _ => h.2 : SeqAt bindE _ w' ba b)
  clear a5 b5 ha hb hna hnb hva hvb
  go_enter Try.func19, Try.ntmps19
  go_wp2_with fail
  refine (table_spec Hb.out Hnb.out).mono ?_
  rintro e w1 ⟨v1, rfl, hb1, hm1⟩
  have HM := Lib.hid hm1
  obtain ⟨B1, nB1, D1, rfl, -⟩ := hm1
  go_wp2_with fail
  refine (table_spec (Ha.out.at hb1) Hna.out).mono ?_
  rintro e w2 ⟨v2, rfl, hb2, hm2⟩
  have HN := Lib.hid hm2
  have HM2 := Lib.hid (HM.out.at hb2)
  obtain ⟨B2, nB2, D2, rfl, -⟩ := hm2
  have Hbw2 := Lib.hid (below_step hb2 hb1)
  have hz2 := Hbw2.out.size
  clear HM hb1 hb2
  go_wp2_with fail
  go_loopw [8, 23] (fun o i wr => ∃ k : Nat, ∃ L, k ≤ a.length ∧ i = .int .i64 k ∧ Hid (FstM a b k L) ∧ Own bindE (Fr T w) w2.heap.size 44 wr o L ∧ Below w2.heap.size w2 wr) (fun _ i _ => a.length - (intOf i).toNat)
  case atStart => exact ⟨0, [], Nat.zero_le _, rfl, Lib.hid (fstM_nil a b), Own.nil _ _ _ _ _, Below.refl _ _⟩
  case round =>
    obtain ⟨k, L, hk, rfl, hF, hown, hbr⟩ := hrel
    have hbel := below_step hbr Hbw2.out
    have HB := Lib.hid hbr
    have hzr := hbr.size
    obtain ⟨oa, oc, rfl, -, -⟩ := hown.shape
    have Hown := Lib.hid hown
    have hLk := Lib.hid hF.out.1
    clear hown
    by_cases hlt : k < a.length
    · obtain ⟨c1, o1, p1, n1, rfl, -, hc1, d0, d1, ok0, hX⟩ := (haf hbel).out.bnd2 hlt
      have HX := Lib.hid hX
      have hsn := Lib.hid (fun t (ht : appO b a[k].t = some t) => fstM_snoc hF.out hlt ht)
      have hno := Lib.hid (fun (h : appO b a[k].t = none) => compose_none Hna.out (List.getElem_mem hlt) (Hva.out _ (List.getElem_mem hlt)) h)
      obtain ⟨⟨xa, xt⟩, hx⟩ : ∃ x, x = a[k] := ⟨_, rfl⟩
      rw [← hx] at d0 d1 ok0 HX hno
      simp only [← hx] at hsn
      dsimp only at d0 d1 ok0 HX hsn hno
      have hkl : (k : Int) < (a.length : Int) := by omega
      have hk0 : (0 : Int) ≤ (k : Int) := by omega
      clear hX hx haf hbf
      go_wp2_with fail
      refine (putP_spec (w := wr.alloc (.cells #[.int .i64 xa, .slice p1 xt.length n1] 44)) ((HM2.out.at HB.out).at Seq.way) (HX.out.at Seq.way)).mono ?_
      rintro e w3 ⟨v3, rfl, hb3, hs3⟩
      have hx3 := (Row.new wr [.int .i64 xa, .slice p1 xt.length n1] 44 rfl).below hb3 (by simp)
      have e0 := hx3.cell (j := 0) (by simp)
      simp only [List.getElem_cons_zero] at e0
      have hb3r := below_step hb3 (Seq.way : Below wr.heap.size wr (wr.alloc (.cells #[.int .i64 xa, .slice p1 xt.length n1] 44)))
      have zz3 := hb3.size
      have z3 := hb3r.size
      have HB3 := Lib.hid (below_step hb3r HB.out)
      clear hx3
      cases hap : appO b xt with
      | none =>
        have hr := Lib.hid (hno.out hap)
        rw [hap] at hs3
        obtain ⟨ra, rc, rfl⟩ := hs3.shape
        clear hap hs3 hsn hno hb3
        go_wp2_with fail
        go_ret2
        rw [hr.out]
        exact ⟨_, rfl, below_step HB3.out Hbw2.out, Seq.nil _ _ _⟩
      | some t =>
        have hs := Lib.hid (hsn.out t hap)
        rw [hap] at hs3
        replace hs3 : Seq cellE (fun b => wr.heap.size + 1 ≤ b) w3 v3 t := by simpa using hs3
        have HX3 := Lib.hid hs3
        obtain ⟨ra, rc, rfl⟩ := hs3.shape
        clear hap hs3 hsn hno hb3
        simp only [World.size_alloc] at zz3
        go_wp2_with (at_builtin; refine wpList_app_bindS (y := ⟨xa, t⟩) rfl _ _ 22 rfl Try.underlying22 infoBindS rfl ((Hown.out.move hb3r).move Seq.way) rfl ok0 (HX3.out.at Seq.way) (fun x h _ => ⟨.inr (by omega), fun e => by have := (Hown.out.blk e).2; omega⟩) (by go_simp) (by go_simp) (by have := hLk.out; omega) (by simp; omega) ?_)
        intro ao cap w' hown' hkept
        have H' := Lib.hid hown'
        have K' := Lib.hid (HB3.out.trans (Below.trans Seq.way hkept.below))
        clear hown' hkept
        go_wp2_with fail
        go_roundw
        case rel => exact ⟨k + 1, _, hlt, by go_num, hs, by simpa using H'.out, K'.out⟩
        case measure => simp [intOf]; omega
    · obtain rfl : k = a.length := by omega
      have hLl := hLk.out
      clear hLk
      have hLl' := Lib.hid hLl
      clear hLl
      go_wp2_with fail
      go_loopw [8, 46] (fun o i wy => ∃ j : Nat, j ≤ b.length ∧ i = .int .i64 j ∧ Own bindE (Fr T w) w2.heap.size 44 wy o (L ++ restB a (b.take j)) ∧ Below w2.heap.size w2 wy) (fun _ i _ => b.length - (intOf i).toNat)
      case atStart => exact ⟨0, Nat.zero_le _, rfl, by simpa [restB, fltL] using Hown.out, HB.out⟩
      case round =>
        clear Hown HB hbel hbr
        obtain ⟨j, hj, rfl, hown, hbr⟩ := hrel
        have hbel := below_step hbr Hbw2.out
        have HB := Lib.hid hbr
        have hzr := hbr.size
        obtain ⟨oa2, oc2, rfl, -, -⟩ := hown.shape
        have Hown := Lib.hid hown
        have hrl := restB_len a (b.take j)
        rw [List.length_take] at hrl
        clear hown
        by_cases hlt : j < b.length
        · obtain ⟨c1, o1, p1, n1, rfl, -, hc1, d0, d1, ok0, hX⟩ := (hbf hbel).out.bnd2 hlt
          have HX := Lib.hid hX
          have hy := Lib.hid (fun h => fltL_yes (f := fun x : Bnd => (bindS a x.var).isNone) hlt h)
          have hn := Lib.hid (fun h => fltL_no (f := fun x : Bnd => (bindS a x.var).isNone) hlt h)
          obtain ⟨⟨xa, xt⟩, hx⟩ : ∃ x, x = b[j] := ⟨_, rfl⟩
          rw [← hx] at d0 d1 ok0 HX hy hn
          dsimp only at d0 d1 ok0 HX hy hn
          obtain ⟨L2, hL2⟩ : ∃ L2, L2 = L ++ restB a (b.take j) := ⟨_, rfl⟩
          have HL2 := Lib.hid hL2
          have hL2l : L2.length ≤ 200000 := by have := hLl'.out; rw [hL2, List.length_append]; omega
          rw [← hL2] at Hown ⊢
          have hjl : (j : Int) < (b.length : Int) := by omega
          have hj0 : (0 : Int) ≤ (j : Int) := by omega
          clear hX hx haf hbf hL2
          obtain ⟨B', nB', D', ee, -, hBl, hownm, hTab⟩ := HN.out.at HB.out
          simp only [Value.map.injEq, Option.some.injEq] at ee
          obtain rfl := ee
          have HO := Lib.hid hownm
          cases hbd : bindS a xa with
          | none =>
            have hhas := (hTab.2 xa).1 hbd
            have hs := Lib.hid (show L ++ restB a (b.take (j + 1)) = L2 ++ [⟨xa, xt⟩] by
              rw [HL2.out, List.append_assoc]
              exact congrArg (L ++ ·) (hy.out (by rw [hbd]; rfl)))
            clear hy hn hbd hownm hTab
            go_wp2_with (first | (at_lookup; refine wpList_look _ rfl _ _ 57 rfl 3 23 (Maps.int_keyed Try.underlying3) Try.underlying57 (zero_slice _) B2 nB' D' rfl (HO.out.alloc _) _ _ rfl (Maps.keyOf_int_mk Try.underlying3 (wf_ok ok0)) (Maps.atKey_of_not_has hhas _) hhas ?_) | (at_builtin; refine wpList_app_bindS (y := ⟨xa, xt⟩) rfl _ _ 22 rfl Try.underlying22 infoBindS rfl (Hown.out.move Seq.way) rfl ok0 (HX.out.at Seq.way) (fun x h _ => ⟨.inl h.1, fun e => by have := (Hown.out.blk e).1; have := h.2; omega⟩) (by go_simp) (by go_simp) (by omega) (by simp; omega) ?_))
            intro ao cap w' hown' hkept
            have H' := Lib.hid hown'
            have K' := Lib.hid (HB.out.trans (Below.trans Seq.way hkept.below))
            clear hown' hkept
            go_wp2_with fail
            go_roundw
            case rel => exact ⟨j + 1, hlt, by go_num, by rw [hs.out]; simpa using H'.out, K'.out⟩
            case measure => simp [intOf]; omega
          | some tb =>
            obtain ⟨hhas, v, hat, hXm⟩ := (hTab.2 xa).2 tb hbd
            obtain ⟨xa2, xc2, rfl, -⟩ := hXm
            have hs := Lib.hid (show L ++ restB a (b.take (j + 1)) = L2 by
              rw [HL2.out]
              exact congrArg (L ++ ·) (hn.out (by rw [hbd]; rfl)))
            clear hy hn hbd hownm hTab
            go_wp2_with (at_lookup; refine wpList_look _ rfl _ _ 57 rfl 3 23 (Maps.int_keyed Try.underlying3) Try.underlying57 (zero_slice _) B2 nB' D' rfl (HO.out.alloc _) _ _ rfl (Maps.keyOf_int_mk Try.underlying3 (wf_ok ok0)) (hat _) hhas ?_)
            go_wp2_with fail
            go_roundw
            case rel => exact ⟨j + 1, hlt, by go_num, by rw [hs.out]; exact Hown.out.move Seq.way, HB.out.trans Seq.way⟩
            case measure => simp [intOf]; omega
        · obtain rfl : j = b.length := by omega
          rw [List.take_length] at Hown hrl ⊢
          have hvars := Lib.hid (show ∀ x ∈ keptL (L ++ restB a b), 0 ≤ x.var ∧ x.var ≤ 999 from fun x hx => by
            rcases List.mem_append.1 (List.mem_filter.1 hx).1 with h | h
            · obtain ⟨i, hi, rfl⟩ := List.mem_iff_getElem.1 h
              obtain ⟨y, t, h1, h2, -⟩ := hF.out.2 i (by rw [← hLl'.out]; exact hi)
              rw [List.getElem?_eq_getElem hi] at h2
              simp only [Option.some.injEq] at h2
              rw [h2]
              exact Hva.out y (List.mem_of_getElem? h1)
            · exact Hvb.out x (List.mem_filter.1 h).1)
          have hlaw := Lib.hid (fun l' h1 h2 => compose_law (l' := l') Hna.out Hnb.out Hva.out Hvb.out hF.out h1 h2)
          obtain ⟨M, hM⟩ : ∃ M, M = L ++ restB a b := ⟨_, rfl⟩
          have hMl : M.length ≤ 200000 := by have := hLl'.out; rw [hM, List.length_append]; omega
          rw [← hM] at Hown hvars ⊢
          simp only [← hM] at hlaw
          have hkl : (keptL M).length ≤ M.length := List.length_filter_le _ _
          clear hM haf hbf
          go_wp2_with fail
          refine (deleteB_spec Hown.out hzr (by omega)).mono ?_
          rintro e w5 ⟨o5, rfl, hb5, hown5⟩
          have hz5 : w2.heap.size ≤ w5.heap.size := Nat.le_trans hzr hb5.size
          have Hown5 := Lib.hid hown5
          obtain ⟨oa5, oc5, rfl, -⟩ := hown5.shape
          clear hown5
          go_wp2_with fail
          refine (sortB_spec Hown5.out hz5 hvars.out (by omega)).mono ?_
          rintro e w6 ⟨rfl, hb6, l', hp, hs, hown6⟩
          have Hown6 := Lib.hid hown6
          have hr := Lib.hid (hlaw.out l' hp hs)
          have hll := hp.length_eq
          clear hown6 hp hs
          go_wp2_with fail
          go_ret2
          rw [hr.out]
          refine ⟨_, rfl, Hbw2.out.trans ((HB.out.trans (hb5.trans hb6)).mono hz2), ?_⟩
          exact Hown6.out.seqB (by omega) fun x hx h => h.elim id fun h => .inr (by have := (Hown6.out.blk h).1; omega)
end Go.Proofs.Ytgfiaddldmmjiaa
