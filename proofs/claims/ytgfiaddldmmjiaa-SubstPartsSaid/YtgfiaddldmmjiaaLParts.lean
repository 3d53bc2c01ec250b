/-
  Layer 2: the walk of SubstParts.
-/
import Derived.Test.YtgfiaddldmmjiaaLIdem
import Derived.Deep.Cut
import Derived.Deep.DeepCutAuto
import Derived.Deep.RegionHeld3
namespace Go.Proofs.Ytgfiaddldmmjiaa
open Go Go.RowKit

theorem Row.drewE {T : TypeId} {w : World} {B : Nat} {vs : List Value} (h : Row T w B vs) : Row T w.drew B vs := h.at rfl
theorem partsC_join : ∀ {k : Nat} {l : List Cell}, endC k l = some l.length → (partsC k l).flatten = l
  | 0, l, h => by
    rw [endC_zero] at h
    rw [List.eq_nil_of_length_eq_zero (show l.length = 0 by simpa using h.symm)]; rfl
  | k + 1, l, h => by
    rw [Nat.add_comm, endC_add] at h
    obtain ⟨m, h1, h2⟩ := Option.bind_eq_some_iff.1 h
    obtain ⟨x, h3, h4⟩ := Option.map_eq_some_iff.1 h2
    have hm := (endC_le h1).1
    rw [partsC_step h1, List.flatten_cons, partsC_join (by rw [h3, List.length_drop]; congr 1; omega), List.take_append_drop]
/-- What the parts come to. -/
def allP (s : List Bnd) (c : Cell) (l : List (List Cell)) : List Cell := c :: l.flatMap (putT s)
theorem allP_snoc {s : List Bnd} {c : Cell} {l : List (List Cell)} {k : Nat} (hk : k < l.length) : allP s c (l.take (k + 1)) = allP s c (l.take k) ++ putT s l[k] := by
  unfold allP
  rw [List.take_succ_eq_append_getElem hk, List.flatMap_append]; simp
theorem parts_put {s : List Bnd} {t : List Cell} (ht : RightT t) {c : Cell} {l : List Cell} (he : t = c :: l) (hk : c.kind = 3) : putT s t = allP s c (partsT t) := by
  obtain ⟨c', l', h1, h2, h3⟩ := ht.cons
  rw [he] at h1
  simp only [List.cons.injEq] at h1
  obtain ⟨rfl, rfl⟩ := h1
  have hj := partsC_join h3
  unfold allP
  rw [he, putT_cons, lookS_free (.inl (by omega))]
  show c :: putT s l = c :: (partsC (arity c) l).flatMap (putT s)
  refine congrArg (c :: ·) ?_
  conv => lhs; rw [← hj]
  have : ∀ L : List (List Cell), putT s L.flatten = L.flatMap (putT s) := by
    intro L
    induction L with
    | nil => rfl
    | cons a L ih => rw [List.flatten_cons, putT_app, ih]; rfl
  exact this _
theorem part_le {s : List Bnd} {c : Cell} {L : List (List Cell)} {p : List Cell} (hp : p ∈ L) : (putT s p).length ≤ (allP s c L).length := by
  unfold allP
  rw [List.length_cons, List.length_flatMap]
  have : ∀ L : List (List Cell), p ∈ L → (putT s p).length ≤ (L.map fun x => (putT s x).length).sum := by
    intro L
    induction L with
    | nil => intro h; simp at h
    | cons a L ih =>
      intro h
      rw [List.map_cons, List.sum_cons]
      rcases List.mem_cons.1 h with rfl | h
      · omega
      · have := ih h; omega
  have := this L hp
  omega

theorem allP_take_le {s : List Bnd} {c : Cell} {L : List (List Cell)} (k : Nat) : (allP s c (L.take k)).length ≤ (allP s c L).length := by
  unfold allP
  conv => rhs; rw [← List.take_append_drop k L]
  rw [List.flatMap_append]; simp
set_option maxHeartbeats 3200000 in
set_option maxRecDepth 100000 in
theorem law_parts {S T : Nat → Prop} {w : World} {v u : Value} {s : List Bnd} {t : List Cell} (hh : HeadOK) (hs : Seq bindE S w v s) (ht : Seq cellE T w u t) :
    Calls Try.prog 8 #[v, u] w (RetV (.bool true) w) := by
  have HB0 := Lib.hid (Below.refl w.heap.size w)
  have Hs := Lib.hid hs.any
  have Ht := Lib.hid ht.any
  obtain ⟨sa, sc, rfl⟩ := hs.shape
  obtain ⟨ta, tc, rfl⟩ := ht.shape
  clear hs ht
  go_enter Try.func8, Try.ntmps8
  go_wp2_with fail
  refine (hh (w := w)).mono ?_
  rintro e w1 ⟨rfl, hb⟩
  replace hb := below_step hb (Seq.way : Below w.heap.size w _)
  replace Hs := Lib.hid (Hs.out.at hb)
  replace Ht := Lib.hid (Ht.out.at hb)
  have HB1 := Lib.hid (below_step hb HB0.out)
  clear hb
  go_wp2_with fail
  refine (May_spec (Hs.out.at Seq.way) (Ht.out.at Seq.way)).mono ?_
  rintro e w2 ⟨rfl, hb⟩
  replace hb := below_step hb (Seq.way : Below w1.heap.size w1 _)
  replace Hs := Lib.hid (Hs.out.at hb)
  replace Ht := Lib.hid (Ht.out.at hb)
  have HB2 := Lib.hid (below_step hb HB1.out)
  clear hb
  cases h1 : mayS s t
  · go_wp2_with fail
    go_ret
    exact ⟨rfl, HB2.out⟩
  · obtain ⟨rs, rt, ls, ns⟩ := mayS_iff h1
    have Rs := Lib.hid rs
    have Rt := Lib.hid rt
    have Ls := Lib.hid ls
    have tl := rt.1
    have tp := rt.pos
    have hpl := Lib.hid (fun l (he : t = t[0] :: l) (hk : t[0].kind = 3) => parts_put (s := s) rt he hk)
    have het := Lib.hid (show ∃ l, t = t[0] :: l from by
      obtain ⟨c, l, h, -⟩ := rt.cons
      exact ⟨l, by subst h; rfl⟩)
    have hmax := Lib.hid (show (putT s t).length ≤ 60000 from by have := putT_len ls (by omega) t; omega)
    clear rs rt ls h1
    obtain ⟨b, off, rfl, -, lb, c0, c1, c2, ok0, ok2, ok3⟩ := Ht.out.sat'.cell (k := 0) tp
    simp only [Nat.zero_mul, Nat.add_zero] at c0 c1 c2
    obtain ⟨c, hc⟩ : ∃ c, c = t[0] := ⟨_, rfl⟩
    rw [← hc] at c0 c1 c2 ok0 ok2 ok3 het
    simp only [← hc] at hpl
    clear hc
    have ht0 : (0 : Int) < (t.length : Int) := by omega
    have ht0' : 0 < t.length := by omega
    by_cases hk3 : c.kind = 3
    · have hk3' : (c.kind != 3) = false := by simp [hk3]
      have hput := Lib.hid (show putT s t = allP s c (partsT t) from by obtain ⟨l, hl⟩ := het.out; exact hpl.out l hl hk3)
      clear hk3 hpl het
      have Hput0 := hput
      obtain ⟨Ps, hPs⟩ : ∃ P, P = partsT t := ⟨_, rfl⟩
      have hpr := Lib.hid (show ∀ x ∈ Ps, RightT x ∧ x.length < t.length from fun x hx => by rw [hPs] at hx; exact partsT_right tl x hx)
      rw [← hPs] at hput
      have hPs' := Lib.hid hPs
      have hpl1 : Ps.length ≤ 200 := by
        obtain ⟨cc, ll, e1, -, e3⟩ := Rt.out.cons
        have : Ps.length = arity cc := by rw [hPs, e1]; exact partsC_len e3
        have h4 := (endC_le e3).2
        have h5 : t.length = ll.length + 1 := by rw [e1]; rfl
        have := (endC_le e3).1
        omega
      clear Hput0 hPs
      obtain ⟨is, his⟩ : ∃ b, b = (appO s t).isSome := ⟨_, rfl⟩
      have Hap := Lib.hid (show (is = true ∧ (putT s t).length ≤ 200 ∧ appO s t = some (putT s t)) ∨ (is = false ∧ 200 < (putT s t).length ∧ appO s t = none) from by
        by_cases h2 : (putT s t).length ≤ 200
        · exact .inl ⟨by rw [his, appO_yes h2]; rfl, h2, appO_yes h2⟩
        · have h3 := appO_none.2 (show 200 < (putT s t).length by omega)
          exact .inr ⟨by rw [his, h3]; rfl, by omega, h3⟩)
      go_wp2_with fail
      refine (ApplyP_spec Hs.out Rs.out.ne Ht.out).mono ?_
      rintro e w3 ⟨v3, rfl, hb, hs⟩
      rw [← his]
      obtain ⟨xa, xc, rfl⟩ := hs.shape
      have Hx := Lib.hid hs.any
      replace Hs := Lib.hid (Hs.out.at hb)
      replace Ht := Lib.hid (Ht.out.at hb)
      have HB3 := Lib.hid (below_step hb HB2.out)
      have He := fun {W : World} (hW : Below w3.heap.size w3 W) => Lib.hid (show W.cell? ⟨b, off, none⟩ = some (.int .i64 c.kind) ∧ W.cell? ⟨b, off + 1, none⟩ = some (.string c.name) ∧ W.cell? ⟨b, off + 2, none⟩ = some (.int .i64 c.n) from
        ⟨(hW.cell (p := ⟨b, off, none⟩) (Nat.lt_of_lt_of_le lb hb.size)).trans ((hb.cell (p := ⟨b, off, none⟩) lb).trans c0), (hW.cell (p := ⟨b, off + 1, none⟩) (Nat.lt_of_lt_of_le lb hb.size)).trans ((hb.cell (p := ⟨b, off + 1, none⟩) lb).trans c1), (hW.cell (p := ⟨b, off + 2, none⟩) (Nat.lt_of_lt_of_le lb hb.size)).trans ((hb.cell (p := ⟨b, off + 2, none⟩) lb).trans c2)⟩)
      have HXL := Lib.hid (show (appO s t).getD [] = (appO s t).getD [] from rfl)
      obtain ⟨X, hX⟩ : ∃ X, X = (appO s t).getD [] := ⟨_, rfl⟩
      have HX := Lib.hid hX
      rw [← hX] at Hx ⊢
      clear hs c0 c1 c2 his HXL hX
      have hb' := hb.size
      clear hb
      go_upto_region 5 with fail
      go_cut [8, 9] (fun l al wc => ∃ la lc B, l = .slice la Ps.length lc ∧ al = .slice (some ⟨B, 0, none⟩) 1 1 ∧ w3.heap.size ≤ B ∧ Row 41 wc B [.int .i64 c.kind, .string c.name, .int .i64 c.n] ∧ Seq (seqE cellE) (fun x => x ≠ B) wc (.slice la Ps.length lc) Ps ∧ Below w3.heap.size w3 wc)
      case first =>
        go_region_held3 (fun w' => w'.cell? ⟨b, off, none⟩ = some (.int .i64 c.kind) ∧ w'.cell? ⟨b, off + 1, none⟩ = some (.string c.name) ∧ w'.cell? ⟨b, off + 2, none⟩ = some (.int .i64 c.n))
          (first | exact (He Seq.way).out | go_keep)
          (first
            | (go_at_call 30; refine (PartsR_spec (S := fun x => x < w3.heap.size) (w := w3.drew) ((Ht.out.bnd.mono (T := fun x => x < w3.heap.size) (fun _ h _ => h.2) fun _ _ _ => rfl).at Seq.way) (by omega)).mono ?_; rintro e w5 ⟨v5, rfl, hb5, hp5⟩; have HB5 := below_step hb5 (Seq.way : Below w3.heap.size w3 w3.drew); have zz5 := HB5.size; (rw [← hPs'.out] at hp5); obtain ⟨va5, vc5, rfl⟩ := hp5.shape)
            | (go_at_call 30; refine (PartsR_spec (S := fun x => x < w3.heap.size) (w := (w3.alloc (.cells #[.int .i64 c.kind, .string c.name, .int .i64 c.n] 41)).drew) ((Ht.out.bnd.mono (T := fun x => x < w3.heap.size) (fun _ h _ => h.2) fun _ _ _ => rfl).at Seq.way) (by omega)).mono ?_; rintro e w5 ⟨v5, rfl, hb5, hp5⟩; have HB5 := below_step hb5 (Seq.way : Below w3.heap.size w3 (w3.alloc (.cells #[.int .i64 c.kind, .string c.name, .int .i64 c.n] 41)).drew); have zz5 := HB5.size; have r5 := rowTo (Row.drewE (Row.new w3 [.int .i64 c.kind, .string c.name, .int .i64 c.n] 41 rfl)) hb5; (rw [← hPs'.out] at hp5); obtain ⟨va5, vc5, rfl⟩ := hp5.shape))
        all_goals (go_wp2_with fail)
        all_goals (go_meet)
        all_goals (first
          | exact ⟨_, _, _, rfl, rfl, zz5, Row.new _ _ _ rfl, (hp5.mono (T := fun x => x ≠ w5.heap.size) (fun _ _ h => (by omega)) fun _ _ _ => rfl).at Seq.way, below_step (Seq.way : Below w5.heap.size w5 (w5.alloc _)) HB5⟩
          | exact ⟨_, _, _, rfl, rfl, Nat.le_refl _, r5, (hp5.mono (T := fun x => x ≠ w3.heap.size) (fun x h _ => by (rcases h with h | h) <;> (try simp at h) <;> omega) fun _ _ _ => rfl), HB5⟩)
      case rest =>
        obtain ⟨la, lc, B, rfl, rfl, hBw, hrow, hsl, hbc⟩ := hcut
        have HO := Lib.hid (FlatE.own (E := cellE) (S := fun _ => True) (l := [c]) (n := 1) (cap := 1) hrow rfl (FlatE.single ⟨rfl, ok0, ok2, ok3⟩) hBw rfl (Nat.le_refl _) (by simp [maxLen]) : Own cellE (fun _ => True) w3.heap.size 41 wc (.slice (some ⟨B, 0, none⟩) 1 1) [c])
        have hBc := hrow.lt
        have Hbc := Lib.hid hbc
        have zc := hbc.size
        have Hsl := Lib.hid hsl
        clear hrow hsl hbc He Ht hpr hPs'
        have hvf := fun {w' : World} (h : ∀ x, x < wc.heap.size → x ≠ B → w'.heap[x]? = wc.heap[x]?) => Lib.hid (Hsl.out.sat'.mono (fun _ h _ => h) (fun x hx h2 => h x h2 hx) : SeqAt (seqE cellE) (fun x => x ≠ B) w' la Ps)
        go_wp2_with fail
        go_loopw [9, 10] (fun o i wr => ∃ k : Nat, k ≤ Ps.length ∧ i = .int .i64 k ∧ Own cellE (fun _ => True) w3.heap.size 41 wr o (allP s c (Ps.take k)) ∧ Below w3.heap.size w3 wr ∧ Hid (∀ x, o.ownBlock = some x → x = B ∨ wc.heap.size ≤ x) ∧
            Hid (∀ x, x < wc.heap.size → x ≠ B → wr.heap[x]? = wc.heap[x]?) ∧ wc.heap.size ≤ wr.heap.size) (fun _ i _ => Ps.length - (intOf i).toNat)
        case atStart => exact ⟨0, Nat.zero_le _, rfl, HO.out, Hbc.out, Lib.hid (fun x h => by simp [Value.ownBlock] at h; exact .inl h.symm), Lib.hid (fun _ _ _ => rfl), Nat.le_refl _⟩
        case round =>
          clear HO
          obtain ⟨k, hk, rfl, hown, hbr, hob, hkp, hzb⟩ := hrel
          have Hown := Lib.hid hown
          have HBr := Lib.hid hbr
          have hzr := hbr.size
          obtain ⟨oa, oc, rfl, -, -⟩ := hown.shape
          have hl1 : (allP s c (Ps.take k)).length ≤ 60000 := by have := allP_take_le (s := s) (c := c) (L := Ps) k; have := hmax.out; rw [hput.out] at this; omega
          clear hown
          by_cases hlt : k < Ps.length
          · obtain ⟨pb, poff, pa, pc, rfl, -, plb, pc0, HP⟩ := (hvf hkp.out).out.seq hlt
            have HPp := Lib.hid HP
            have hsn := Lib.hid (allP_snoc (s := s) (c := c) hlt)
            have hl2 : (allP s c (Ps.take (k + 1))).length ≤ 60000 := by have := allP_take_le (s := s) (c := c) (L := Ps) (k + 1); have := hmax.out; rw [hput.out] at this; omega
            have hple := Lib.hid (show (putT s Ps[k]).length ≤ (putT s t).length by rw [hput.out]; exact part_le (List.getElem_mem hlt))
            obtain ⟨x, hx⟩ : ∃ x, x = Ps[k] := ⟨_, rfl⟩
            rw [← hx] at pc0 HPp hsn hple
            clear HP
            obtain ⟨O, hO⟩ : ∃ O, O = allP s c (Ps.take k) := ⟨_, rfl⟩
            rw [← hO] at Hown hl1 hsn hob ⊢
            obtain ⟨O2, hO2⟩ : ∃ O2, O2 = allP s c (Ps.take (k + 1)) := ⟨_, rfl⟩
            have HO2 := Lib.hid hO2
            rw [← hO2] at hl2 hsn
            have hkl : (k : Int) < (Ps.length : Int) := by omega
            have hk0 : (0 : Int) ≤ (k : Int) := by omega
            clear hx hO hO2 hvf
            go_wp2_with fail
            refine (ApplyP_spec (Hs.out.at hbr) Rs.out.ne HPp.out).mono ?_
            rintro e y1 ⟨vy, rfl, hy1, hsy⟩
            have Hy1 := Lib.hid hy1
            have zy1 := hy1.size
            by_cases hx2 : (putT s x).length ≤ 200
            · rw [appO_yes hx2] at hsy ⊢
              replace hsy : Seq cellE (fun b => wr.heap.size ≤ b) y1 vy (putT s x) := hsy
              have Hsy := Lib.hid hsy
              obtain ⟨ya, yc, rfl⟩ := hsy.shape
              have h' := Lib.hid hsn.out
              clear hsy hsn hple
              go_wp2_with (at_builtin; refine wpList_appL (wm := wr) (zs := O2) rfl _ _ 23 rfl Try.underlying23 infoCellS rfl rfl Hown.out Hy1.out rfl Hsy.out (fun b h _ => ⟨trivial, .inr h⟩) h'.out (by omega) (by omega) hzr ?_)
              intro ao cap w' hown' hkept
              have H' := Lib.hid hown'
              have K' := Lib.hid (HBr.out.trans ((Hy1.out.mono hzr).trans hkept.below))
              have hob' := Lib.hid (show ∀ y, (Value.slice ao O2.length cap).ownBlock = some y → y = B ∨ wc.heap.size ≤ y from fun y hy => by
                rcases hkept.blk with h | h
                · rw [h] at hy; exact hob.out y hy
                · rw [h] at hy; simp at hy; omega)
              have hkp' := Lib.hid (show ∀ y, y < wc.heap.size → y ≠ B → w'.heap[y]? = wc.heap[y]? from fun y h1 h2 => by
                rw [hkept.keep y (by omega) (fun e => by have := hob.out y e; omega), Hy1.out.block y (by omega), hkp.out y h1 h2])
              have hz' : wc.heap.size ≤ w'.heap.size := by have := hkept.below.size; omega
              clear hown' hkept hy1
              go_wp2_with fail
              go_roundw
              case rel => exact ⟨k + 1, hlt, by go_num, by rw [← HO2.out]; exact H'.out, K'.out, hob', hkp', hz'⟩
              case measure => simp [intOf]; omega
            · have h3 := appO_none.2 (show 200 < (putT s x).length by omega)
              have hisf : is = false := by
                rcases Hap.out with ⟨-, h, -⟩ | ⟨h, -, -⟩
                · have := hple.out; omega
                · exact h
              have hXl : X = [] := by
                rw [HX.out]
                rcases Hap.out with ⟨-, h, -⟩ | ⟨-, -, h⟩
                · have := hple.out; omega
                · rw [h]; rfl
              rw [h3]
              subst hXl
              subst hisf
              obtain ⟨ya, yc, rfl⟩ := hsy.shape
              have HBy := Lib.hid (below_step (below_step hy1 hbr) HB3.out)
              clear hsy hsn hple hy1 h3 Hap
              go_wp2_with fail
              go_ret
              exact ⟨rfl, HBy.out⟩
          · obtain rfl : k = Ps.length := by omega
            rw [List.take_length] at Hown hl1 hob ⊢
            rw [← hput.out] at Hown hl1 hob ⊢
            have Ho := Lib.hid (Hown.out.seqB (T := fun _ => True) (by omega) fun _ _ _ => trivial)
            have HBy := Lib.hid (below_step hbr HB3.out)
            have Hx1 := Lib.hid (Hx.out.at hbr)
            rcases Hap.out with ⟨rfl, h1, h2⟩ | ⟨rfl, h1, h2⟩
            · have hX2 : X = putT s t := by rw [HX.out, h2]; rfl
              subst hX2
              have h1' : (((putT s t).length : Int) ≤ 200) = True := by simp; omega
              have h1i : ((putT s t).length : Int) ≤ 200 := by omega
              clear Hap h1 h2 hvf
              go_wp2_with fail
              refine (SameT_spec Hx1.out Ho.out).mono ?_
              rintro e y2 ⟨rfl, hy2⟩
              rw [decide_eq_true rfl]
              go_wp2_with fail
              go_ret
              exact ⟨rfl, below_step (hy2.below _) HBy.out⟩
            · have h1i : ¬ ((putT s t).length : Int) ≤ 200 := by omega
              clear Hap h1 h2 hvf
              go_wp2_with fail
              go_ret
              exact ⟨rfl, HBy.out⟩
    · have hk3' : (c.kind != 3) = true := by simp [hk3]
      clear hk3
      go_wp2_with fail
      go_ret
      exact ⟨rfl, HB2.out⟩
end Go.Proofs.Ytgfiaddldmmjiaa
