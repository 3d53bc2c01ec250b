/-
  Layer 2: the walk of SubstVars.
-/
import Derived.Test.YtgfiaddldmmjiaaLIdem
namespace Go.Proofs.Ytgfiaddldmmjiaa
open Go Go.RowKit

theorem ground_put {s : List Bnd} {t : List Cell} (h : groundT t = true) : putT s t = t := put_free fun c hc => by
  unfold groundT at h
  have := List.all_eq_true.1 h c hc
  exact lookS_free (.inl (by simpa using this))
/-- The variables that stand for one. -/
def wantV (s : List Bnd) (n : Int) : List Int := match bindS s n with
  | some tb => varsL tb
  | none => [n]
def wantL (s : List Bnd) (l : List Int) : List Int := l.flatMap (wantV s)
theorem wantL_snoc {s : List Bnd} {l : List Int} {k : Nat} (hk : k < l.length) : wantL s (l.take (k + 1)) = wantL s (l.take k) ++ wantV s l[k] := by
  unfold wantL
  rw [List.take_succ_eq_append_getElem hk, List.flatMap_append]; simp
theorem wantV_len {s : List Bnd} (h : ∀ b ∈ s, b.t.length ≤ 300) (n : Int) : (wantV s n).length ≤ 300 := by
  unfold wantV
  cases hb : bindS s n with
  | none => simp
  | some tb =>
    obtain ⟨b, hb1, -, rfl⟩ := bindS_mem hb
    exact Nat.le_trans (varsL_len _) (h b hb1)
theorem wantL_len {s : List Bnd} (h : ∀ b ∈ s, b.t.length ≤ 300) : ∀ l : List Int, (wantL s l).length ≤ l.length * 300
  | [] => by simp [wantL]
  | n :: l => by
    have h1 := wantL_len h l
    have h2 := wantV_len h n
    have e : wantL s (n :: l) = wantV s n ++ wantL s l := rfl
    rw [e, List.length_append, List.length_cons, Nat.add_mul]; omega
theorem vars_put (s : List Bnd) (t : List Cell) (n : Int) : n ∈ varsL (putT s t) ↔ n ∈ wantL s (varsL t) := by
  have hl : ∀ c : Cell, (∃ d ∈ lookS s c, d.kind = 1 ∧ d.n = n) ↔ c.kind = 1 ∧ n ∈ wantV s c.n := fun c => by
    by_cases hk : c.kind = 1
    · cases hb : bindS s c.n with
      | some tb =>
        rw [lookS_bound hk hb]
        unfold wantV
        rw [hb]
        exact ⟨fun h => ⟨hk, varsL_mem.2 h⟩, fun h => varsL_mem.1 h.2⟩
      | none =>
        rw [lookS_free (.inr hb)]
        unfold wantV
        rw [hb]
        constructor
        · rintro ⟨d, hd, h1, h2⟩
          rw [List.mem_singleton] at hd
          subst hd
          exact ⟨h1, by simp [h2]⟩
        · rintro ⟨-, h⟩
          exact ⟨c, by simp, hk, (List.mem_singleton.1 (show n ∈ [c.n] from h)).symm⟩
    · rw [lookS_free (.inl hk)]
      constructor
      · rintro ⟨d, hd, h1, -⟩
        rw [List.mem_singleton] at hd
        subst hd; exact absurd h1 hk
      · rintro ⟨h, -⟩; exact absurd h hk
  rw [varsL_mem]
  unfold wantL putT
  rw [List.mem_flatMap]
  constructor
  · rintro ⟨d, hd, h1, h2⟩
    obtain ⟨c, hc, hdc⟩ := List.mem_flatMap.1 hd
    obtain ⟨hk, hn⟩ := (hl c).1 ⟨d, hdc, h1, h2⟩
    exact ⟨c.n, varsL_mem.2 ⟨c, hc, hk, rfl⟩, hn⟩
  · rintro ⟨m, hm, hn⟩
    obtain ⟨c, hc, hk, rfl⟩ := varsL_mem.1 hm
    obtain ⟨d, hd, h1, h2⟩ := (hl c).2 ⟨hk, hn⟩
    exact ⟨d, List.mem_flatMap.2 ⟨c, hc, hd⟩, h1, h2⟩

set_option maxHeartbeats 3200000 in
set_option maxRecDepth 100000 in
theorem law_vars {S T : Nat → Prop} {w : World} {v u : Value} {s : List Bnd} {t : List Cell} (hh : HeadOK) (hs : Seq bindE S w v s) (ht : Seq cellE T w u t) :
    Calls Try.prog 9 #[v, u] w (RetV (.bool true) w) := by
  have HB0 := Lib.hid (Below.refl w.heap.size w)
  have Hs := Lib.hid hs.any
  have Ht := Lib.hid ht.any
  obtain ⟨sa, sc, rfl⟩ := hs.shape
  obtain ⟨ta, tc, rfl⟩ := ht.shape
  clear hs ht
  go_enter Try.func9, Try.ntmps9
  go_wp2_with fail
  refine (hh (w := w)).mono ?_
  rintro e w1 ⟨rfl, hb⟩
  replace hb := below_step hb (Seq.way : Below w.heap.size w _)
  replace Hs := Lib.hid (Hs.out.at hb)
  replace Ht := Lib.hid (Ht.out.at hb)
  have HB1 := Lib.hid (below_step hb HB0.out)
  clear hb
  go_wp2_with fail
  refine (May_spec (Hs.out.at Seq.way) (Ht.out.at Seq.way)).mono ?_
  rintro e w2 ⟨rfl, hb⟩
  replace hb := below_step hb (Seq.way : Below w1.heap.size w1 _)
  replace Hs := Lib.hid (Hs.out.at hb)
  replace Ht := Lib.hid (Ht.out.at hb)
  have HB2 := Lib.hid (below_step hb HB1.out)
  clear hb
  cases h1 : mayS s t
  · go_wp2_with fail
    go_ret
    exact ⟨rfl, HB2.out⟩
  · obtain ⟨rs, rt, ls, ns⟩ := mayS_iff h1
    have Rs := Lib.hid rs
    have Rt := Lib.hid rt
    have Ls := Lib.hid ls
    have tl := rt.1
    have vl := varsL_len t
    clear rs rt ls h1
    by_cases h2 : (putT s t).length ≤ 200
    · have e1 := appO_yes h2
      have Rx := Lib.hid (put_right Rs.out Rt.out h2)
      go_wp2_with fail
      refine (ApplyP_spec (Hs.out.at Seq.way) Rs.out.ne (Ht.out.at Seq.way)).mono ?_
      rintro e w3 ⟨v3, rfl, hb, hs⟩
      rw [e1] at hs ⊢
      replace hs := hs.any
      (first | simp only [Option.getD_some] at hs | simp only [Option.getD_none] at hs | skip)
      obtain ⟨a3, c3, rfl⟩ := hs.shape
      replace hb := below_step hb (Seq.way : Below w2.heap.size w2 _)
      replace Hs := Lib.hid (Hs.out.at hb)
      replace Ht := Lib.hid (Ht.out.at hb)
      have HB3 := Lib.hid (below_step hb HB2.out)
      clear hb
      have Hx := Lib.hid hs
      clear hs
      go_wp2_with fail
      refine (GroundR_spec (Ht.out.at Seq.way) (by omega)).mono ?_
      rintro e w4 ⟨rfl, hb⟩
      replace hb := below_step hb (Seq.way : Below w3.heap.size w3 _)
      replace Hs := Lib.hid (Hs.out.at hb)
      replace Ht := Lib.hid (Ht.out.at hb)
      replace Hx := Lib.hid (Hx.out.at hb)
      have HB4 := Lib.hid (below_step hb HB3.out)
      clear hb
      cases hg : groundT t
      · go_wp2_with fail
        clear hg
        obtain ⟨P0, hP0⟩ : ∃ P0, P0 = w4.heap.size := ⟨_, rfl⟩
        have HsP := Lib.hid Hs.out
        have HxP := Lib.hid Hx.out
        refine (VarsR_spec (Ht.out.at Seq.way) (by omega)).mono ?_
        rintro e w5 ⟨v5, rfl, hb, hs⟩
        have hO := (Own.lit0 (E := intE) (S := fun _ => True) (xs := wantL s ((varsL t).take 0)) rfl (Nat.le_refl _) (by simp [wantL]) : Own intE (fun _ => True) w4.heap.size 3 (w4.alloc (.cells #[] 3)) (.slice (some ⟨w4.heap.size, 0, none⟩) 0 0) _).move hb
        have hz0 := hb.size
        simp only [World.size_alloc] at hz0
        obtain ⟨a5, c5, rfl⟩ := hs.shape
        have Hv := Lib.hid (hs.mono (T := fun x => w4.heap.size + 1 ≤ x ∧ x < w5.heap.size) (fun x h h2 => ⟨by simpa using h, h2⟩) fun _ _ _ => rfl)
        have hbp : Below w4.heap.size w4 w5 := below_step hb (Seq.way : Below w4.heap.size w4 _)
        clear hs hb hP0 Hs Ht Hx
        have hwl := Lib.hid (fun j => show (wantL s ((varsL t).take j)).length ≤ 60000 from by
          have h1 := wantL_len Ls.out ((varsL t).take j)
          have h2 : ((varsL t).take j).length ≤ 200 := by rw [List.length_take]; omega
          omega)
        have hmem := Lib.hid (vars_put s t)
        have hsf := fun {w' : World} (h : Below w4.heap.size w4 w') => Lib.hid (HsP.out.sat'.below h fun _ _ h => h : SeqAt bindE _ w' sa s)
        have hvf := fun {w' : World} (h : ∀ x, w4.heap.size + 1 ≤ x → x < w5.heap.size → w'.heap[x]? = w5.heap[x]?) => Lib.hid (Hv.out.sat'.mono (fun _ h _ => h) (fun x hx _ => h x hx.1 hx.2) : SeqAt intE (fun x => w4.heap.size + 1 ≤ x ∧ x < w5.heap.size) w' a5 (varsL t))
        obtain ⟨V, hV⟩ : ∃ V, V = varsL t := ⟨_, rfl⟩
        simp only [← hV] at hvf hwl hmem hO
        rw [← hV] at Hv vl ⊢
        clear hV
        have HO := Lib.hid hO
        have Hbp := Lib.hid hbp
        clear hO hbp
        go_wp2_with fail
        go_loopw [8, 10] (fun o i wr => ∃ k : Nat, k ≤ V.length ∧ i = .int .i64 k ∧ Own intE (fun _ => True) w4.heap.size 3 wr o (wantL s (V.take k)) ∧ Below w4.heap.size w4 wr ∧ Hid (∀ x, o.ownBlock = some x → x = w4.heap.size ∨ w5.heap.size ≤ x) ∧
            Hid (∀ x, w4.heap.size + 1 ≤ x → x < w5.heap.size → wr.heap[x]? = w5.heap[x]?) ∧ w5.heap.size ≤ wr.heap.size) (fun _ i _ => V.length - (intOf i).toNat)
        case atStart => exact ⟨0, Nat.zero_le _, rfl, HO.out, Hbp.out, Lib.hid (fun x h => by simp [Value.ownBlock] at h; exact .inl h.symm), Lib.hid (fun _ _ _ => rfl), Nat.le_refl _⟩
        case round =>
          clear HO
          obtain ⟨k, hk, rfl, hown, hbr, hob, hkp, hzb⟩ := hrel
          have Hown := Lib.hid hown
          have HBr := Lib.hid hbr
          have hzr := hbr.size
          obtain ⟨oa, oc, rfl, -, -⟩ := hown.shape
          have hl1 := hwl.out k
          clear hown
          by_cases hlt : k < V.length
          · obtain ⟨b, off, rfl, -, lb, c0, ok0⟩ := (hvf hkp.out).out.int hlt
            have hsn := Lib.hid (wantL_snoc (s := s) hlt)
            have hl2 := hwl.out (k + 1)
            obtain ⟨x, hx⟩ : ∃ x, x = V[k] := ⟨_, rfl⟩
            rw [← hx] at c0 ok0 hsn
            obtain ⟨O, hO⟩ : ∃ O, O = wantL s (V.take k) := ⟨_, rfl⟩
            rw [← hO] at Hown hl1 hsn hob ⊢
            obtain ⟨O2, hO2⟩ : ∃ O2, O2 = wantL s (V.take (k + 1)) := ⟨_, rfl⟩
            have HO2 := Lib.hid hO2
            rw [← hO2] at hl2 hsn
            have hkl : (k : Int) < (V.length : Int) := by omega
            have hk0 : (0 : Int) ≤ (k : Int) := by omega
            clear hx hO hO2 hvf
            go_wp2_with fail
            refine (place_spec (n := x) (HsP.out.at hbr)).mono ?_
            rintro e _ ⟨rfl, rfl⟩
            rcases placeS_cases s x with ⟨hp, hbd⟩ | ⟨j, hj, hp, -, hbd⟩
            · have h' := Lib.hid (show O2 = O ++ [x] by rw [hsn.out]; unfold wantV; rw [hbd])
              rw [hp]
              clear hp hbd hsn hsf
              go_wp2_with (at_builtin; refine wpList_app_int (wm := wr) rfl _ _ 24 rfl Try.underlying24 infoInt rfl Hown.out rfl (y := x) Seq.way ok0 ?_ ?_ ?_ ?_)
              · go_simp
              · omega
              · exact hzr
              · intro ao cap w' hown' hkept
                have H' := Lib.hid hown'
                have K' := Lib.hid (HBr.out.trans (Below.trans (Seq.way : Below w4.heap.size wr _) hkept.below))
                have hob' := Lib.hid (show ∀ y, (Value.slice ao (O.length + 1) cap).ownBlock = some y → y = w4.heap.size ∨ w5.heap.size ≤ y from fun y hy => by
                  rcases hkept.blk with h | h
                  · rw [h] at hy; exact hob.out y hy
                  · rw [h] at hy; simp at hy; omega)
                have hkp' := Lib.hid (show ∀ y, w4.heap.size + 1 ≤ y → y < w5.heap.size → w'.heap[y]? = w5.heap[y]? from fun y h1 h2 => by
                  rw [hkept.keep y (by simp; omega) (fun e => by have := hob.out y e; omega), Below.heap_alloc _ _ _ (by omega), hkp.out y h1 h2])
                have hz' : w5.heap.size ≤ w'.heap.size := by have := hkept.below.size; simp at this; omega
                clear hown' hkept
                go_wp2_with fail
                go_roundw
                case rel => exact ⟨k + 1, hlt, by go_num, by rw [← HO2.out, h'.out]; simpa using H'.out, K'.out, hob', hkp', hz'⟩
                case measure => simp [intOf]; omega
            · have h' := Lib.hid (show O2 = O ++ varsL s[j].t by rw [hsn.out]; unfold wantV; rw [hbd])
              have hsl := Ls.out _ (List.getElem_mem hj)
              obtain ⟨b2, o2, p2, n2, rfl, -, -, -, e1, -, hX⟩ := (hsf hbr).out.bnd2 hj
              have HX := Lib.hid hX
              obtain ⟨y, hy⟩ : ∃ y, y = s[j].t := ⟨_, rfl⟩
              rw [← hy] at e1 HX h' hsl
              rw [hp]
              have hj0 : (0 : Int) ≤ (j : Int) := by omega
              have hj1 : ¬ (j : Int) < 0 := by omega
              have hj2 : (j : Int) < (s.length : Int) := by omega
              clear hp hbd hsn hsf hX hy hj
              go_wp2_with fail
              refine (VarsR_spec HX.out (by omega)).mono ?_
              rintro e y1 ⟨vy, rfl, hy1, hsy⟩
              have Hy1 := Lib.hid hy1
              have Hsy := Lib.hid hsy
              have zy1 := hy1.size
              obtain ⟨ya, yc, rfl⟩ := hsy.shape
              clear hsy
              go_wp2_with (at_builtin; refine wpList_appL (wm := wr) (zs := O2) rfl _ _ 24 rfl Try.underlying24 infoInt rfl rfl Hown.out Hy1.out rfl Hsy.out (fun b h _ => ⟨trivial, .inr h⟩) h'.out (by omega) (by omega) hzr ?_)
              intro ao cap w' hown' hkept
              have H' := Lib.hid hown'
              have K' := Lib.hid (HBr.out.trans ((Hy1.out.mono hzr).trans hkept.below))
              have hob' := Lib.hid (show ∀ y, (Value.slice ao O2.length cap).ownBlock = some y → y = w4.heap.size ∨ w5.heap.size ≤ y from fun y hy => by
                rcases hkept.blk with h | h
                · rw [h] at hy; exact hob.out y hy
                · rw [h] at hy; simp at hy; omega)
              have hkp' := Lib.hid (show ∀ y, w4.heap.size + 1 ≤ y → y < w5.heap.size → w'.heap[y]? = w5.heap[y]? from fun y h1 h2 => by
                rw [hkept.keep y (by omega) (fun e => by have := hob.out y e; omega), Hy1.out.block y (by omega), hkp.out y h1 h2])
              have hz' : w5.heap.size ≤ w'.heap.size := by have := hkept.below.size; omega
              clear hown' hkept hy1
              go_wp2_with fail
              go_roundw
              case rel => exact ⟨k + 1, hlt, by go_num, by rw [← HO2.out]; exact H'.out, K'.out, hob', hkp', hz'⟩
              case measure => simp [intOf]; omega
          · obtain rfl : k = V.length := by omega
            rw [List.take_length] at Hown hl1 hob ⊢
            obtain ⟨O, hO⟩ : ∃ O, O = wantL s V := ⟨_, rfl⟩
            rw [← hO] at Hown hl1 hmem hob ⊢
            have Ho := Lib.hid (Hown.out.seqB (T := fun _ => True) (by omega) fun _ _ _ => trivial)
            have gl := varsL_len (putT s t)
            clear hO hsf hvf
            go_wp2_with fail
            refine (VarsR_spec (HxP.out.at hbr) (by omega)).mono ?_
            rintro e y1 ⟨vy, rfl, hy1, hsy⟩
            have Hg := Lib.hid hsy.any
            replace Ho := Lib.hid (Ho.out.at hy1)
            have Hx1 := Lib.hid (HxP.out.at (below_step hy1 hbr))
            have HBy := Lib.hid (below_step (below_step hy1 hbr) HB4.out)
            obtain ⟨ga, gc, rfl⟩ := hsy.shape
            have hgf := Lib.hid Hg.out.sat'
            have hof := Lib.hid Ho.out.sat'
            clear hsy
            obtain ⟨Gg, hGg⟩ : ∃ G, G = varsL (putT s t) := ⟨_, rfl⟩
            rw [← hGg] at Hg hgf gl ⊢
            simp only [← hGg] at hmem
            clear hGg
            go_wp2_with fail
            go_loopw [13] (fun i wr => ∃ k : Nat, k ≤ Gg.length ∧ i = .int .i64 k ∧ y1 = wr) (fun i _ => Gg.length - (intOf i).toNat)
            case atStart => exact ⟨0, Nat.zero_le _, rfl, rfl⟩
            case round =>
              obtain ⟨i, hi, rfl, rfl⟩ := hrel
              by_cases hlt2 : i < Gg.length
              · obtain ⟨b, off, rfl, -, lb, c0, ok0⟩ := hgf.out.int hlt2
                have hin := (hmem.out Gg[i]).1 (List.getElem_mem hlt2)
                obtain ⟨x, hx⟩ : ∃ x, x = Gg[i] := ⟨_, rfl⟩
                rw [← hx] at c0 hin
                have hkl : (i : Int) < (Gg.length : Int) := by omega
                have hk0 : (0 : Int) ≤ (i : Int) := by omega
                clear hx
                go_wp2_with fail
                refine (InB_spec (n := x) Ho.out).mono ?_
                rintro e _ ⟨rfl, rfl⟩
                rw [decide_eq_true hin]
                clear hin
                go_wp2_with fail
                go_roundw
                case rel => exact ⟨i + 1, hlt2, by go_num, trivial⟩
                case measure => simp [intOf]; omega
              · obtain rfl : i = Gg.length := by omega
                go_wp2_with fail
                go_loopw [14] (fun i wr => ∃ k : Nat, k ≤ O.length ∧ i = .int .i64 k ∧ y1 = wr) (fun i _ => O.length - (intOf i).toNat)
                case atStart => exact ⟨0, Nat.zero_le _, rfl, rfl⟩
                case round =>
                  obtain ⟨j, hj, rfl, rfl⟩ := hrel
                  by_cases hlt3 : j < O.length
                  · obtain ⟨b, off, rfl, -, lb, c0, ok0⟩ := hof.out.int hlt3
                    have hin := (hmem.out O[j]).2 (List.getElem_mem hlt3)
                    obtain ⟨x, hx⟩ : ∃ x, x = O[j] := ⟨_, rfl⟩
                    rw [← hx] at c0 hin
                    have hkl : (j : Int) < (O.length : Int) := by omega
                    have hk0 : (0 : Int) ≤ (j : Int) := by omega
                    clear hx
                    go_wp2_with fail
                    refine (InB_spec (n := x) Hg.out).mono ?_
                    rintro e _ ⟨rfl, rfl⟩
                    rw [decide_eq_true hin]
                    clear hin
                    go_wp2_with fail
                    go_roundw
                    case rel => exact ⟨j + 1, hlt3, by go_num, trivial⟩
                    case measure => simp [intOf]; omega
                  · obtain rfl : j = O.length := by omega
                    go_wp2_with fail
                    refine (RightR_spec Hx1.out).mono ?_
                    rintro e y2 ⟨rfl, hy2⟩
                    have hrx : rightT (putT s t) = true := decide_eq_true Rx.out
                    rw [hrx]
                    clear hrx
                    go_wp2_with fail
                    go_ret
                    exact ⟨rfl, below_step hy2 HBy.out⟩
      · have hp := Lib.hid (ground_put (s := s) hg)
        go_wp2_with fail
        refine (SameT_spec (Hx.out.at Seq.way) (Ht.out.at Seq.way)).mono ?_
        rintro e w5 ⟨rfl, hq⟩
        have hb := hq.belowS
        clear hq
        rw [decide_eq_true hp.out]
        replace hb := below_step hb (Seq.way : Below w4.heap.size w4 _)
        replace Hs := Lib.hid (Hs.out.at hb)
        replace Ht := Lib.hid (Ht.out.at hb)
        replace Hx := Lib.hid (Hx.out.at hb)
        have HB5 := Lib.hid (below_step hb HB4.out)
        clear hb
        go_wp2_with fail
        go_ret
        exact ⟨rfl, HB5.out⟩
    · have e1 := appO_none.2 (show 200 < (putT s t).length by omega)
      go_wp2_with fail
      refine (ApplyP_spec (Hs.out.at Seq.way) Rs.out.ne (Ht.out.at Seq.way)).mono ?_
      rintro e w3 ⟨v3, rfl, hb, hs⟩
      rw [e1] at hs ⊢
      replace hs := hs.any
      (first | simp only [Option.getD_some] at hs | simp only [Option.getD_none] at hs | skip)
      obtain ⟨a3, c3, rfl⟩ := hs.shape
      replace hb := below_step hb (Seq.way : Below w2.heap.size w2 _)
      replace Hs := Lib.hid (Hs.out.at hb)
      replace Ht := Lib.hid (Ht.out.at hb)
      have HB3 := Lib.hid (below_step hb HB2.out)
      clear hb
      have Hx := Lib.hid hs
      clear hs
      go_wp2_with fail
      refine (GroundR_spec (Ht.out.at Seq.way) (by omega)).mono ?_
      rintro e w4 ⟨rfl, hb⟩
      replace hb := below_step hb (Seq.way : Below w3.heap.size w3 _)
      replace Hs := Lib.hid (Hs.out.at hb)
      replace Ht := Lib.hid (Ht.out.at hb)
      replace Hx := Lib.hid (Hx.out.at hb)
      have HB4 := Lib.hid (below_step hb HB3.out)
      clear hb
      cases hg : groundT t
      · go_wp2_with fail
        go_ret
        exact ⟨rfl, HB4.out⟩
      · have := ground_put (s := s) hg
        rw [this] at h2
        omega
end Go.Proofs.Ytgfiaddldmmjiaa
