/-
  R03: Made and Atom, walked.
-/
import Derived.Test.YtbcambjonjhopaaGreatTmF
import Derived.Deep.Cut
import Derived.Deep.DeepCutAuto
import Derived.Deep.RegionHeld3
namespace Go.Proofs.YtbcambjonjhopaaGreat
open Go Go.RowKit

theorem infoCell : (Tryz.prog.info? 52).map (fun i => (i.zero, i.size, i.bytes)) = some (some (.agg #[.int .i64 0, .string ⟨#[]⟩, .int .i64 0]), 3, 32) := by kernel_rfl

section
variable {P : Program} {ops : Array Oper} {rest : List Oper} {o : Oper} {a : Act} {Q : Exit → Act → World → Prop}
theorem wpList_app_cell {S : Nat → Prop} {w wm : World} (hgd : o.guard = none) (s x : Operand) (t : TypeId)
    (ho : o.op = .call { callee := .builtin .append, args := #[s, x], argTypes := #[t, t] })
    {base : Nat} {e : TypeId} (ht : P.underlying t = some (.slice e)) (hi : (P.info? e).map (fun i => (i.zero, i.size, i.bytes)) = some (some (.agg #[.int .i64 0, .string ⟨#[]⟩, .int .i64 0]), 3, 32))
    {v : Value} {xs : List Cell} (hs : a.eval s = v) (hown : Own cellE S base e wm v xs) {B c : Nat} (hx : a.eval x = .slice (some ⟨B, 0, none⟩) 1 c)
    (hbw : Below wm.heap.size wm w) {y : Cell} (h1 : IntOK y.kind) (h2 : IntOK y.n) (h3 : y.name.size ≤ 140737488355328)
    (hc0 : w.cell? ⟨B, 0, none⟩ = some (.int .i64 y.kind)) (hc1 : w.cell? ⟨B, 1, none⟩ = some (.string y.name)) (hc2 : w.cell? ⟨B, 2, none⟩ = some (.int .i64 y.n)) (hbytes : xs.length ≤ 1000000000000) (hbase : base ≤ wm.heap.size)
    (h : ∀ ao cap w', Own cellE S base e w' (.slice ao (xs.length + 1) cap) (xs ++ [y]) → Kept base wm w w' v (.slice ao (xs.length + 1) cap) → wpList P ops Q rest (a.put o.dst (.slice ao (xs.length + 1) cap)) w') : wpList P ops Q (o :: rest) a w :=
  wpList_app1 (E := cellE) (Sy := fun _ => False) (y := y) (cs := [.int .i64 y.kind, .string y.name, .int .i64 y.n]) hgd s x t ho ht hi rfl hs hown hbw _ _ hx ⟨rfl, h1, h2, h3⟩ (fun _ h => h.elim)
    (by
      intro j hj
      have h3 : j < 3 := hj
      rcases (show j = 0 ∨ j = 1 ∨ j = 2 by omega) with rfl | rfl | rfl
      · exact hc0
      · exact hc1
      · exact hc2) (by omega) (by simp only [maxLen]; omega) hbase
    fun ao cap w' h1 h2 h3 h4 => h ao cap w' h1 (Kept.of h2 h3 hbw hbase h4)
end

theorem nameM_len (s : ByteArray) : (nameM s).size = 1 := by unfold nameM; split <;> (try split) <;> rfl
theorem pickC_bnd (l : List Cell) (most i need : Nat) : IntOK (pickC l most i need).kind ∧ IntOK (pickC l most i need).n ∧ (pickC l most i need).name.size ≤ 1 := by
  have ha : IntOK aC.kind ∧ IntOK aC.n ∧ aC.name.size ≤ 1 := ⟨⟨by decide, by decide⟩, ⟨by decide, by decide⟩, by decide⟩
  unfold pickC
  cases l[i]? with
  | none => exact ha
  | some c =>
    simp only
    split
    · exact ⟨⟨by simp, by simp⟩, ⟨by show _ ≤ c.n % 8; omega, by show c.n % 8 ≤ _; omega⟩, by show (⟨#[]⟩ : ByteArray).size ≤ 1; decide⟩
    · split
      · exact ⟨⟨by simp, by simp⟩, ⟨by show _ ≤ c.n % 4; omega, by show c.n % 4 ≤ _; omega⟩, by show (⟨#[]⟩ : ByteArray).size ≤ 1; decide⟩
      · split
        · exact ⟨⟨by simp, by simp⟩, ⟨by show _ ≤ c.n % 4; omega, by show c.n % 4 ≤ _; omega⟩, by simp [nameM_len]⟩
        · exact ha

set_option maxHeartbeats 8000000 in
set_option maxRecDepth 100000 in
theorem MadeC_spec {S : Nat → Prop} {w : World} {v : Value} {l : List Cell} {most : Nat} (hl : Seq cellE S w v l) (hm : 1 ≤ most) (hm2 : most ≤ 200) :
    Calls Tryz.prog 80 #[v, .int .i64 most] w (Ret (fun r w' => Seq cellE (Fr S w) w' r (madeT most l)) w) := by
  have Hl := Lib.hid hl
  obtain ⟨ao, cap, rfl, h1, h2, h3, h4, h5⟩ := hl
  go_enter Tryz.func80, Tryz.ntmps80
  go_wp2_with fail
  refine (RightR_spec Hl.out).mono ?_
  rintro e w1 ⟨rfl, hb1⟩
  by_cases hr : rightT l = true ∧ l.length ≤ most
  · have hfin := Lib.hid (show madeT most l = l by unfold madeT; rw [if_pos hr])
    have hr1 := hr.1
    have hr2 : (l.length : Int) ≤ (most : Int) := by have := hr.2; omega
    rw [hr1]
    go_wp2_with fail
    go_ret
    refine ⟨_, rfl, hb1, ?_⟩
    rw [hfin.out]
    exact (Hl.out.at hb1).mono (fun _ h _ => .inl h) fun _ _ _ => rfl
  · have hfin := Lib.hid (show madeT most l = madeGo most l most [] 1 by unfold madeT; rw [if_neg hr])
    have hcs : rightT l = false ∨ (rightT l = true ∧ decide (l.length ≤ most) = false) := by
      cases h : rightT l
      · exact .inl rfl
      · exact .inr ⟨rfl, decide_eq_false fun h2 => hr ⟨h, h2⟩⟩
    clear hr
    have hz1 := hb1.size
    rcases hcs with hr1 | ⟨hr1, hr2⟩
    all_goals
      rw [hr1]
      go_wp2_with fail
      go_loopw [5, 6, 7] (fun o nd i wr => ∃ (out : List Cell) (need f : Nat), nd = .int .i64 need ∧ i = .int .i64 out.length ∧ out.length + need ≤ most ∧ most ≤ out.length + f ∧ Hid (madeT most l = madeGo f l most out need) ∧
        Own cellE (fun _ => False) w.heap.size 52 wr o out ∧ Below w.heap.size w wr) (fun _ _ i _ => most - (intOf i).toNat)
      case atStart =>
        exact ⟨[], 1, most, rfl, rfl, by simpa using hm, by simp, hfin, Own.lit0 rfl hz1 rfl, hb1.trans (Below.mono (Seq.way : Below w1.heap.size w1 _) hz1)⟩
      case round =>
        obtain ⟨out, need, f, rfl, rfl, ho1, ho2, hinv, hown, hbr⟩ := hrel
        have hzr := hbr.size
        obtain ⟨oa, oc, rfl, -, -⟩ := hown.shape
        by_cases hn0 : need = 0
        · subst hn0
          have hfin2 := Lib.hid (show madeT most l = out by rw [hinv.out]; cases f <;> simp [madeGo])
          have Hown := Lib.hid hown
          clear hown
          go_wp2_with fail
          go_ret
          refine ⟨_, rfl, hbr, ?_⟩
          rw [hfin2.out]
          exact Hown.out.seq (by omega) fun b _ hb => hb.elim False.elim .inr
        · have hnp : (0 : Int) < (need : Int) := by omega
          obtain ⟨f, rfl⟩ : ∃ f', f = f' + 1 := ⟨f - 1, by omega⟩
          have hst := Lib.hid (show madeT most l = madeGo f l most (out ++ [pickC l most out.length need]) (need - 1 + arity (pickC l most out.length need)) by
            rw [hinv.out, madeGo, if_neg hn0])
          have har := pickC_arity l most out.length need ho1
          obtain ⟨hy1, hy2, hy3'⟩ := pickC_bnd l most out.length need
          obtain ⟨x, hx⟩ : ∃ x, x = pickC l most out.length need := ⟨_, rfl⟩
          rw [← hx] at hst har hy1 hy2 hy3'
          have hx' := Lib.hid hx
          have hy3 : x.name.size ≤ 140737488355328 := by omega
          have Hown := Lib.hid hown
          clear hx hinv hown hy3'
          obtain ⟨nd, rfl⟩ : ∃ nd, need = nd + 1 := ⟨need - 1, by omega⟩
          rw [Nat.add_sub_cancel] at hst
          clear hn0 hnp
          have hnp : (0 : Int) < (nd : Int) + 1 := by omega
          by_cases hlt : out.length < l.length
          · have hltI : (out.length : Int) < (l.length : Int) := by omega
            have hk0 : (0 : Int) ≤ (out.length : Int) := by omega
            obtain ⟨b, off, rfl, -, hb, c0, c1, c2, -, -, hcn⟩ := (h5.below hbr fun _ _ h => h).cell hlt
            have hxe := Lib.hid (show x = if l[out.length].kind % 4 = 1 then ⟨1, ⟨#[]⟩, l[out.length].n % 8⟩ else if l[out.length].kind % 4 = 2 then ⟨2, ⟨#[]⟩, l[out.length].n % 4⟩
                else if ((out.length + (nd + 1) : Nat) : Int) + l[out.length].n % 4 ≤ (most : Int) then ⟨3, nameM l[out.length].name, l[out.length].n % 4⟩ else aC by
              rw [hx'.out, pickC, List.getElem?_eq_getElem hlt])
            clear hx' h5
            obtain ⟨c, hc⟩ : ∃ c, c = l[out.length] := ⟨_, rfl⟩
            rw [← hc] at c0 c1 c2 hcn hxe
            clear hc
            have b1 : bits .and .i64 c.kind 3 = c.kind % 4 := i64_and3 _
            have b2 : bits .and .i64 c.n 3 = c.n % 4 := i64_and3 _
            have b3 : bits .and .i64 c.n 7 = c.n % 8 := i64_and7 _
            obtain ⟨n4, hn4, hn4'⟩ : ∃ n4 : Nat, c.n % 4 = (n4 : Int) ∧ n4 < 4 := ⟨(c.n % 4).toNat, by omega, by omega⟩
            rw [hn4] at hxe b2
            clear hn4
            by_cases e1 : c.kind % 4 = 1
            · have hxl := Lib.hid (show x = ⟨1, ⟨#[]⟩, c.n % 8⟩ by rw [hxe.out, if_pos e1])
              clear hxe
              obtain rfl := hxl.out
              clear hxl
              rw [show arity ⟨1, ⟨#[]⟩, c.n % 8⟩ = 0 by simp [arity]] at hst har
              go_wp2_with (at_builtin; refine wpList_app_cell (wm := wr) rfl (.tmp 105) (.tmp 107) 40 rfl Tryz.underlying40 infoCell rfl Hown.out rfl (y := ⟨1, ⟨#[]⟩, c.n % 8⟩) Seq.way hy1 hy2 hy3 (by go_simp) (by go_simp) (by go_simp) (by omega) hzr ?_)
              intro ao2 cap2 w2 hown2 hk2
              have H2 := Lib.hid hown2
              have K2 := Lib.hid (hbr.trans (Below.trans (Seq.way : Below w.heap.size wr _) hk2.below))
              clear hown2 hk2
              go_wp2_with fail
              go_roundw
              case rel => exact ⟨out ++ [⟨1, ⟨#[]⟩, c.n % 8⟩], nd, f, by go_num, by rw [List.length_append]; go_num, by simp; omega, by simp; omega, hst, H2.out, K2.out⟩
              case measure => simp [intOf]; omega
            · by_cases e2 : c.kind % 4 = 2
              · have hxl := Lib.hid (show x = ⟨2, ⟨#[]⟩, (n4 : Int)⟩ by rw [hxe.out, if_neg e1, if_pos e2])
                clear hxe
                obtain rfl := hxl.out
                clear hxl
                rw [show arity ⟨2, ⟨#[]⟩, (n4 : Int)⟩ = 0 by simp [arity]] at hst har
                go_wp2_with (at_builtin; refine wpList_app_cell (wm := wr) rfl (.tmp 105) (.tmp 107) 40 rfl Tryz.underlying40 infoCell rfl Hown.out rfl (y := ⟨2, ⟨#[]⟩, (n4 : Int)⟩) Seq.way hy1 hy2 hy3 (by go_simp) (by go_simp) (by go_simp) (by omega) hzr ?_)
                intro ao2 cap2 w2 hown2 hk2
                have H2 := Lib.hid hown2
                have K2 := Lib.hid (hbr.trans (Below.trans (Seq.way : Below w.heap.size wr _) hk2.below))
                clear hown2 hk2
                go_wp2_with fail
                go_roundw
                case rel => exact ⟨out ++ [⟨2, ⟨#[]⟩, (n4 : Int)⟩], nd, f, by go_num, by rw [List.length_append]; go_num, by simp; omega, by simp; omega, hst, H2.out, K2.out⟩
                case measure => simp [intOf]; omega
              · have e1' : (c.kind % 4 == 1) = false := by simpa using e1
                have e2' : (c.kind % 4 == 2) = false := by simpa using e2
                by_cases e3 : ((out.length + (nd + 1) : Nat) : Int) + (n4 : Int) ≤ (most : Int)
                · have hxl := Lib.hid (show x = ⟨3, nameM c.name, (n4 : Int)⟩ by rw [hxe.out, if_neg e1, if_neg e2, if_pos e3])
                  clear hxe
                  obtain rfl := hxl.out
                  clear hxl e1 e2
                  rw [show arity ⟨3, nameM c.name, (n4 : Int)⟩ = n4 by simp [arity]] at hst har
                  have e3' : (out.length : Int) + ((nd : Int) + 1) + (n4 : Int) ≤ (most : Int) := by omega
                  have hk13 : ∀ {W : World}, Below wr.heap.size wr W → W.cell? ⟨b, off + out.length * 3 + 1, none⟩ = some (.string c.name) ∧ W.cell? ⟨b, off + out.length * 3 + 2, none⟩ = some (.int .i64 c.n) := fun hW =>
                    ⟨(hW.cell (p := ⟨b, off + out.length * 3 + 1, none⟩) hb).trans c1, (hW.cell (p := ⟨b, off + out.length * 3 + 2, none⟩) hb).trans c2⟩
                  have Hk13 := fun {W : World} (hW : Below wr.heap.size wr W) => Lib.hid (hk13 hW)
                  clear hk13
                  go_upto_region 13 with fail
                  go_region_held3 (fun w' => w'.cell? ⟨b, off + out.length * 3 + 1, none⟩ = some (.string c.name) ∧ w'.cell? ⟨b, off + out.length * 3 + 2, none⟩ = some (.int .i64 c.n))
                    (first | exact (Hk13 Seq.way).out | go_keep)
                    (first | (go_at_call 102; (with_reducible refine (nameR_spec hcn).mono ?_); rintro e _ ⟨rfl, rfl⟩))
                  go_wp2_with (at_builtin; refine wpList_app_cell (wm := wr) rfl (.tmp 105) (.tmp 107) 40 rfl Tryz.underlying40 infoCell rfl Hown.out rfl (y := ⟨3, nameM c.name, (n4 : Int)⟩) Seq.way hy1 hy2 hy3 (by go_simp) (by go_simp) (by go_simp) (by omega) hzr ?_)
                  intro ao2 cap2 w2 hown2 hk2
                  have H2 := Lib.hid hown2
                  have K2 := Lib.hid (hbr.trans (Below.trans (Seq.way : Below w.heap.size wr _) hk2.below))
                  clear hown2 hk2
                  go_wp2_with fail
                  go_roundw
                  case rel => exact ⟨out ++ [⟨3, nameM c.name, (n4 : Int)⟩], nd + n4, f, by go_num, by rw [List.length_append]; go_num, by simp; omega, by simp; omega, hst, H2.out, K2.out⟩
                  case measure => simp [intOf]; omega
                · have hxl := Lib.hid (show x = aC by rw [hxe.out, if_neg e1, if_neg e2, if_neg e3])
                  clear hxe
                  have e3' : ¬ (out.length : Int) + ((nd : Int) + 1) + (n4 : Int) ≤ (most : Int) := by omega
                  obtain rfl := hxl.out
                  clear hxl e1 e2
                  rw [show arity aC = 0 by decide] at hst har
                  change IntOK 3 at hy1
                  change IntOK 0 at hy2
                  change (⟨#[97]⟩ : ByteArray).size ≤ _ at hy3
                  go_wp2_with (at_builtin; refine wpList_app_cell (wm := wr) rfl (.tmp 105) (.tmp 107) 40 rfl Tryz.underlying40 infoCell rfl Hown.out rfl (y := ⟨3, ⟨#[97]⟩, 0⟩) Seq.way hy1 hy2 hy3 (by go_simp) (by go_simp) (by go_simp) (by omega) hzr ?_)
                  intro ao2 cap2 w2 hown2 hk2
                  have H2 := Lib.hid hown2
                  have K2 := Lib.hid (hbr.trans (Below.trans (Seq.way : Below w.heap.size wr _) hk2.below))
                  clear hown2 hk2
                  go_wp2_with fail
                  go_roundw
                  case rel => exact ⟨out ++ [⟨3, ⟨#[97]⟩, 0⟩], nd, f, by go_num, by rw [List.length_append]; go_num, by simp; omega, by simp; omega, hst, H2.out, K2.out⟩
                  case measure => simp [intOf]; omega
          · have hltI : ¬ (out.length : Int) < (l.length : Int) := by omega
            have hxl := Lib.hid (show x = aC by rw [hx'.out, pickC, List.getElem?_eq_none (by omega)])
            clear hx' hlt
            obtain rfl := hxl.out
            clear hxl
            rw [show arity aC = 0 by decide] at hst har
            change IntOK 3 at hy1
            change IntOK 0 at hy2
            change (⟨#[97]⟩ : ByteArray).size ≤ _ at hy3
            go_wp2_with (at_builtin; refine wpList_app_cell (wm := wr) rfl (.tmp 105) (.tmp 107) 40 rfl Tryz.underlying40 infoCell rfl Hown.out rfl (y := ⟨3, ⟨#[97]⟩, 0⟩) Seq.way hy1 hy2 hy3 (by go_simp) (by go_simp) (by go_simp) (by omega) hzr ?_)
            intro ao2 cap2 w2 hown2 hk2
            have H2 := Lib.hid hown2
            have K2 := Lib.hid (hbr.trans (Below.trans (Seq.way : Below w.heap.size wr _) hk2.below))
            clear hown2 hk2
            go_wp2_with fail
            go_roundw
            case rel => exact ⟨out ++ [⟨3, ⟨#[97]⟩, 0⟩], nd, f, by go_num, by rw [List.length_append]; go_num, by simp; omega, by simp; omega, hst, H2.out, K2.out⟩
            case measure => simp [intOf]; omega
end Go.Proofs.YtbcambjonjhopaaGreat
