/-
  Layer 16, the document: instances in memory; cut programs (Cut); a rule's instance (Inst).
-/
import Derived.Test.YtaedgpcmkagpeaaGreatGsI
namespace Go.Proofs.YtaedgpcmkagpeaaGreat
open Go Go.RowKit

/-! ### Instances in memory -/
def instE : Elt Ins where
  sz := 3
  pos := by decide
  R := fun S w r cs => ∃ h p n, cs = [h, p, n] ∧ Seq cellE S w h r.head ∧ Seq (seqE cellE) S w p r.pos ∧ Seq (seqE cellE) S w n r.neg
  len := by rintro _ _ _ _ ⟨h, p, n, rfl, _⟩; rfl
  one := by
    rintro _ _ _ _ ⟨h, p, n, rfl, ⟨ah, ch, rfl, _⟩, ⟨ao, cap, rfl, _⟩, ⟨ao', cap', rfl, _⟩⟩ u hu
    simp at hu; rcases hu with rfl | rfl | rfl <;> rfl
  mono := by
    rintro S T w w' xs _ ⟨h, p, n, rfl, h0, h1, h2⟩ hT hw
    exact ⟨h, p, n, rfl, h0.mono hT hw, h1.mono hT hw, h2.mono hT hw⟩
theorem SeqAt.ins {S : Nat → Prop} {w : World} {ao : Option Addr} {xs : List Ins} (h : SeqAt instE S w ao xs) {k : Nat} (hk : k < xs.length) :
    ∃ b off ha hc pa pc na nc, ao = some ⟨b, off, none⟩ ∧ S b ∧ b < w.heap.size ∧ w.cell? ⟨b, off + k * 3, none⟩ = some (.slice ha xs[k].head.length hc) ∧
      w.cell? ⟨b, off + k * 3 + 1, none⟩ = some (.slice pa xs[k].pos.length pc) ∧ w.cell? ⟨b, off + k * 3 + 2, none⟩ = some (.slice na xs[k].neg.length nc) ∧
      Seq cellE S w (.slice ha xs[k].head.length hc) xs[k].head ∧ Seq (seqE cellE) S w (.slice pa xs[k].pos.length pc) xs[k].pos ∧ Seq (seqE cellE) S w (.slice na xs[k].neg.length nc) xs[k].neg := by
  obtain ⟨b, off, cs, h1, h2, h3, ⟨h, p, n, rfl, hh, hp, hn⟩, h5⟩ := h k _ (List.getElem?_eq_getElem hk)
  obtain ⟨ha, hc, rfl⟩ := hh.shape
  obtain ⟨pa, pc, rfl⟩ := hp.shape
  obtain ⟨na, nc, rfl⟩ := hn.shape
  exact ⟨b, off, ha, hc, pa, pc, na, nc, h1, h2, h3, h5 0 (by decide), h5 1 (by decide), h5 2 (by decide), hh, hp, hn⟩
def InsV (S : Nat → Prop) (w : World) (v : Value) (i : Ins) : Prop := ∃ h p n, v = .agg #[h, p, n] ∧ Seq cellE S w h i.head ∧ Seq (seqE cellE) S w p i.pos ∧ Seq (seqE cellE) S w n i.neg
theorem InsV.mono {S T : Nat → Prop} {w w' : World} {v : Value} {r : Ins} (h : InsV S w v r) (hT : ∀ b, S b → b < w.heap.size → T b) (hw : ∀ b, S b → b < w.heap.size → w'.heap[b]? = w.heap[b]?) : InsV T w' v r := by
  obtain ⟨h, p, n, rfl, h0, h1, h2⟩ := h
  exact ⟨h, p, n, rfl, h0.mono hT hw, h1.mono hT hw, h2.mono hT hw⟩
theorem InsV.at {S : Nat → Prop} {w w' : World} {v : Value} {r : Ins} (h : InsV S w v r) (hb : Below w.heap.size w w') : InsV S w' v r := h.mono (fun _ h _ => h) fun b _ hlt => hb.block b hlt

/-! ### Cut -/
theorem srt_bound {n : Nat} {l : List Int} (h : (∀ x ∈ l, 0 ≤ x ∧ x < n) ∧ Srt cmpZ l) : l.length ≤ n := by
  have := nodup_sub (h.2.nodup cmpZ_cmp) (m := natsZ (List.range n)) fun x hx => by
    obtain ⟨h1, h2⟩ := h.1 x hx
    rw [mem_natsZ]
    unfold inLN
    rw [decide_eq_true_eq]
    exact ⟨List.mem_range.2 (by omega), h1⟩
  rw [natsZ_len, List.length_range] at this; exact this
theorem RightG.lits {g : Prog} (h : RightG g) : ∀ r ∈ g.rules, r.pos.length ≤ g.atoms.length ∧ r.neg.length ≤ g.atoms.length := fun r hr => ⟨srt_bound (h.pos r hr), srt_bound (h.neg r hr)⟩
theorem leads_len (g : Prog) (a : Nat) : (leadsG g a).length ≤ g.atoms.length := by
  have h := leads_sub g a
  have := nodup_sub h.nodup (m := List.range g.atoms.length) fun x hx => List.mem_range.2 (h.lt x hx)
  rwa [List.length_range] at this
set_option maxHeartbeats 6400000 in
set_option maxRecDepth 100000 in
theorem CutR_spec {S : Nat → Prop} {w : World} {v : Value} {g : Prog} {a : Int} (hg : ProgV S w v g) (hR : RightG g) (hn : g.atoms.length ≤ 100000) (hrl : g.rules.length ≤ 100000) :
    Calls Tryz.prog 25 #[v, .int .i64 a] w (Ret (fun o w' => ProgV (Fr S w) w' o (cutG g a)) w) := by
  have HG := Lib.hid hg
  have HR := Lib.hid hR
  have hgb := Lib.hid (show ProgV (fun b => S b ∧ b < w.heap.size) w v g by obtain ⟨p, q, e, h1, h2⟩ := hg; exact ⟨p, q, e, h1.bnd, h2.bnd⟩)
  obtain ⟨va, vr, rfl, hA, hRv⟩ := hg
  obtain ⟨ra, rc, rfl⟩ := hRv.shape
  obtain ⟨aa, ac, rfl⟩ := hA.shape
  clear hA hRv hR
  obtain ⟨W, hW⟩ : ∃ W, W = (w.alloc (.cells #[.slice aa g.atoms.length ac, .slice ra g.rules.length rc] 26)).alloc (.cells #[.slice none 0 0, .slice none 0 0] 26) := ⟨_, rfl⟩
  have HB := Lib.hid (show Below w.heap.size w W by rw [hW]; exact Seq.way)
  have hzW2 : w.heap.size + 2 ≤ W.heap.size := by rw [hW]; simp
  have HP := Lib.hid (show Row 26 W w.heap.size [.slice aa g.atoms.length ac, .slice ra g.rules.length rc] by rw [hW]; exact (Row.new w [_, _] _ rfl).alloc _)
  have HZ := Lib.hid (show Row 26 W (w.heap.size + 1) [.slice none 0 0, .slice none 0 0] by rw [hW]; exact Row.new _ [_, _] _ (by simp))
  have HW := Lib.hid hW
  clear hW
  have d0 := HP.out.cell (j := 0) (by simp)
  have d1 := HP.out.cell (j := 1) (by simp)
  have lP := HP.out.lt
  simp only [List.getElem_cons_zero, List.getElem_cons_succ] at d0 d1
  go_enter Tryz.func25, Tryz.ntmps25
  go_upto_region 1 with fail
  rw [← HW.out]
  by_cases hin : 0 ≤ a ∧ a < g.atoms.length
  · have h1 : decide (a < 0) = false := by simp; omega
    have h2 : decide ((g.atoms.length : Int) ≤ a) = false := by simp; omega
    have h3 : decide (a ≥ (g.atoms.length : Int)) = false := by simp; omega
    obtain ⟨k, rfl⟩ : ∃ k : Nat, a = (k : Int) := ⟨a.toNat, by omega⟩
    have hk := Lib.hid (show k < g.atoms.length by omega)
    have hres := Lib.hid (show cutG g (k : Int) = onlyG g (leadsG g k) by unfold cutG; rw [if_pos hin]; rfl)
    have h4 : decide (g.atoms.length ≤ k) = false := by simp; omega
    have h5 : ((g.atoms.length : Nat) ≤ k) = False := by simp; omega
    clear hin
    go_upto_region 3 with fail
    have Hkeep := fun {Wk : World} (hW : Below W.heap.size W Wk) => Lib.hid (show Wk.cell? ⟨w.heap.size, 0, none⟩ = some (.slice aa g.atoms.length ac) ∧ Wk.cell? ⟨w.heap.size, 1, none⟩ = some (.slice ra g.rules.length rc) from ⟨(hW.cell (p := ⟨w.heap.size, 0, none⟩) lP).trans d0, (hW.cell (p := ⟨w.heap.size, 1, none⟩) lP).trans d1⟩)
    (try simp only [List.append_eq, List.cons_append, List.nil_append])
    refine wp_region_noPanic ?_
    refine wp_region_last (S := fun w' => w'.cell? ⟨w.heap.size, 0, none⟩ = some (.slice aa g.atoms.length ac) ∧ w'.cell? ⟨w.heap.size, 1, none⟩ = some (.slice ra g.rules.length rc)) (by kernel_rfl) ?_ rfl ?_ (fun hHeld => ?_)
    · kernel_rfl
    · exact (Hkeep (Below.drew (Below.refl _ _))).out
    dsimp only [List.dropLast]
    refine wpAnyH_take1 (i := 0) (oi := _) (v := ?_) (by kernel_rfl) rfl (by kernel_rfl) (fun _ _ _ h => h) (Or.inl ⟨by rfl, ?_⟩) (by assumption) ?_
    rotate_left 1
    · intro w hSw; (try dsimp only at hSw); go_simp; (with_reducible rfl)
    (try simp only [Act.put, List.getElem_toArray, List.getElem_cons_zero, List.setIfInBounds_toArray, List.set_cons_zero, List.set_cons_succ])
    refine wpAnyH_take1 (i := 1) (oi := _) (v := ?_) (by kernel_rfl) rfl (by kernel_rfl) (fun _ _ _ h => h) (Or.inl ⟨by rfl, ?_⟩) (by assumption) ?_
    rotate_left 1
    · intro w hSw; (try dsimp only at hSw); go_simp; (with_reducible rfl)
    (try simp only [Act.put, List.getElem_toArray, List.getElem_cons_zero, List.getElem_cons_succ, List.setIfInBounds_toArray, List.set_cons_zero, List.set_cons_succ])
    refine wpAnyH_take1 (i := 2) (oi := _) (v := ?_) (by kernel_rfl) rfl (by kernel_rfl) (fun _ _ _ h => h) (Or.inl ⟨by rfl, ?_⟩) (by assumption) ?_
    rotate_left 1
    · intro w hSw; (try dsimp only at hSw); go_simp; (with_reducible rfl)
    (try simp only [Act.put, List.getElem_toArray, List.getElem_cons_zero, List.getElem_cons_succ, List.setIfInBounds_toArray, List.set_cons_zero, List.set_cons_succ])
    refine wpAnyH_one (i := 3) (by kernel_rfl) rfl (by rfl) fun K hK => ?_
    go_simp
    refine ((LeadsR_spec ((HG.out.at HB.out).at Seq.way) HR.out hk.out hn hrl)).mono ?_
    rintro e y1 ⟨_, rfl, hy1, hz1⟩
    have HY1 := below_step hy1 (Seq.way : Below W.heap.size W _)
    have zy1 := HY1.size
    (try dsimp only)
    clear hHeld
    refine hK.out _ _ (Hkeep HY1).out fun hHeld => ?_
    clear hK K
    (try simp only [Act.put, List.getElem_toArray, List.getElem_cons_zero, List.getElem_cons_succ, List.setIfInBounds_toArray, List.set_cons_zero, List.set_cons_succ])
    have HZ1 := Lib.hid hz1
    obtain ⟨za, zc, rfl⟩ := hz1.shape
    clear hz1
    refine wpAnyH_one (i := 4) (by kernel_rfl) rfl (by rfl) fun K hK => ?_
    go_simp
    refine ((OnlyR_spec (((hgb.out).at HB.out).at Seq.way) (HZ1.out.at Seq.way) (leads_sub g k).lt (Nat.le_trans (leads_len g k) hn) hrl (fun r hr => ⟨Nat.le_trans (HR.out.lits r hr).1 hn, Nat.le_trans (HR.out.lits r hr).2 hn⟩))).mono ?_
    rintro e y2 ⟨_, rfl, hy2, hz2⟩
    have HY2 := below_step hy2 (Seq.way : Below W.heap.size W _)
    have zy2 := HY2.size
    (try dsimp only)
    clear hHeld
    refine hK.out _ _ (Hkeep HY2).out fun hHeld => ?_
    clear hK K
    (try simp only [Act.put, List.getElem_toArray, List.getElem_cons_zero, List.getElem_cons_succ, List.setIfInBounds_toArray, List.set_cons_zero, List.set_cons_succ])
    obtain ⟨za, zr, rfl, hza, hzr⟩ := hz2
    have HA2 := Lib.hid (hza.bnd.mono (T := fun b => Fr S w b ∧ w.heap.size + 1 ≠ b) (fun b h hb => by obtain ⟨h, -⟩ := h; rcases h with h | h; exact ⟨.inl h.1, by have := h.2; omega⟩; have h7 := zy1; exact ⟨.inr (by omega), by omega⟩) (fun _ _ _ => rfl))
    have HR2 := Lib.hid (hzr.bnd.mono (T := fun b => Fr S w b ∧ w.heap.size + 1 ≠ b) (fun b h hb => by obtain ⟨h, -⟩ := h; rcases h with h | h; exact ⟨.inl h.1, by have := h.2; omega⟩; have h7 := zy1; exact ⟨.inr (by omega), by omega⟩) (fun _ _ _ => rfl))
    obtain ⟨xa, xc, rfl⟩ := hza.shape
    obtain ⟨xr, xd, rfl⟩ := hzr.shape
    have HZr := Lib.hid (rowTo HZ.out HY2)
    have fz0 := HZr.out.frozen 0
    have fz1 := HZr.out.frozen 1
    have z0 := HZr.out.cell (j := 0) (by simp)
    have z1 := HZr.out.cell (j := 1) (by simp)
    simp only [List.getElem_cons_zero, List.getElem_cons_succ] at z0 z1
    clear hza hzr
    refine wpAnyH_done (by kernel_rfl) ?_ _
    refine (show Oper.wp _ _ _ _ _ _ from ?_)
    clear hHeld
    go_simp
    refine NoPanic.normal ?_
    go_wp2_with fail
    have s0 : ((y2.setCell ⟨w.heap.size + 1, 0, none⟩ (.slice xa (onlyG g (leadsG g k)).atoms.length xc)).setCell ⟨w.heap.size + 1, 1, none⟩ (.slice xr (onlyG g (leadsG g k)).rules.length xd)).cell? ⟨w.heap.size + 1, 0, none⟩ = some (.slice xa (onlyG g (leadsG g k)).atoms.length xc) := ((HZr.out.set 0 _).set 1 _).cell (j := 0) (by simp)
    have s1 : ((y2.setCell ⟨w.heap.size + 1, 0, none⟩ (.slice xa (onlyG g (leadsG g k)).atoms.length xc)).setCell ⟨w.heap.size + 1, 1, none⟩ (.slice xr (onlyG g (leadsG g k)).rules.length xd)).cell? ⟨w.heap.size + 1, 1, none⟩ = some (.slice xr (onlyG g (leadsG g k)).rules.length xd) := ((HZr.out.set 0 _).set 1 _).cell (j := 1) (by simp)
    refine bodyPost_ret (v := .agg #[.slice xa (onlyG g (leadsG g k)).atoms.length xc, .slice xr (onlyG g (leadsG g k)).rules.length xd]) (by simp [results, Tryz.results25, go_sem, s0, s1]) rfl ?_
    have hg2 := gr_trans (gr_set y2 (w.heap.size + 1) 0 (.slice xa (onlyG g (leadsG g k)).atoms.length xc)) (gr_set _ (w.heap.size + 1) 1 (.slice xr (onlyG g (leadsG g k)).rules.length xd))
    refine ⟨_, rfl, (below_step HY2 HB.out).trans (gr_below hg2 (by omega) (by omega)), ?_⟩
    rw [hres.out]
    refine ⟨_, _, rfl, ?_, ?_⟩
    · exact (gr_seq HA2.out hg2 (fun b h e => by have := h.2; simp at e; omega)).mono (fun b h _ => h.1) fun _ _ _ => rfl
    · exact (gr_seq HR2.out hg2 (fun b h e => by have := h.2; simp at e; omega)).mono (fun b h _ => h.1) fun _ _ _ => rfl
  · have hres := Lib.hid (show cutG g a = ⟨[], []⟩ by unfold cutG; rw [if_neg hin])
    have fz0 := HZ.out.frozen 0
    have fz1 := HZ.out.frozen 1
    have z0 := HZ.out.cell (j := 0) (by simp)
    have z1 := HZ.out.cell (j := 1) (by simp)
    simp only [List.getElem_cons_zero, List.getElem_cons_succ] at z0 z1
    have s0 : ((W.setCell ⟨w.heap.size + 1, 0, none⟩ (.slice none 0 0)).setCell ⟨w.heap.size + 1, 1, none⟩ (.slice none 0 0)).cell? ⟨w.heap.size + 1, 0, none⟩ = some (.slice none 0 0) := ((HZ.out.set 0 _).set 1 _).cell (j := 0) (by simp)
    have s1 : ((W.setCell ⟨w.heap.size + 1, 0, none⟩ (.slice none 0 0)).setCell ⟨w.heap.size + 1, 1, none⟩ (.slice none 0 0)).cell? ⟨w.heap.size + 1, 1, none⟩ = some (.slice none 0 0) := ((HZ.out.set 0 _).set 1 _).cell (j := 1) (by simp)
    have hg2 := gr_trans (gr_set W (w.heap.size + 1) 0 (.slice none 0 0)) (gr_set _ (w.heap.size + 1) 1 (.slice none 0 0))
    by_cases hneg : a < 0
    · have h1 : decide (a < 0) = true := by simp; omega
      have Hg2 := Lib.hid hg2
      clear hneg hin hg2
      go_wp2_with fail
      refine bodyPost_ret (v := .agg #[.slice none 0 0, .slice none 0 0]) (by simp [results, Tryz.results25, go_sem, s0, s1]) rfl ?_
      refine ⟨_, rfl, HB.out.trans (gr_below Hg2.out (by omega) (by omega)), ?_⟩
      rw [hres.out]
      exact ⟨_, _, rfl, Seq.nil _ _ _, Seq.nil _ _ _⟩
    · obtain ⟨k, rfl⟩ : ∃ k : Nat, a = (k : Int) := ⟨a.toNat, by omega⟩
      have h1 : decide ((k : Int) < 0) = false := by simp
      have h2 : decide (g.atoms.length ≤ k) = true := by simp; omega
      have h3 : ((g.atoms.length : Nat) ≤ k) = True := by simp; omega
      have Hg2 := Lib.hid hg2
      clear hneg hin hg2
      go_wp2_with fail
      refine bodyPost_ret (v := .agg #[.slice none 0 0, .slice none 0 0]) (by simp [results, Tryz.results25, go_sem, s0, s1]) rfl ?_
      refine ⟨_, rfl, HB.out.trans (gr_below Hg2.out (by omega) (by omega)), ?_⟩
      rw [hres.out]
      exact ⟨_, _, rfl, Seq.nil _ _ _, Seq.nil _ _ _⟩

/-! ### Inst -/
def atG (g : Prog) (k : Int) : List Cell := g.atoms[k.toNat]?.getD []
theorem instG_eq (g : Prog) (r : Rule) : instG g r = ⟨atG g r.head, r.pos.map (atG g), r.neg.map (atG g)⟩ := rfl
theorem atG_at {g : Prog} {k : Int} (h0 : 0 ≤ k) (h : k < g.atoms.length) : ∃ hk : k.toNat < g.atoms.length, atG g k = g.atoms[k.toNat] := by
  have hk : k.toNat < g.atoms.length := by omega
  exact ⟨hk, by unfold atG; rw [List.getElem?_eq_getElem hk]; rfl⟩
theorem map_snoc {α β : Type} (f : α → β) {l : List α} {k : Nat} (hk : k < l.length) : (l.take (k + 1)).map f = (l.take k).map f ++ [f l[k]] := by
  rw [List.take_succ_eq_append_getElem hk, List.map_append]; rfl
set_option maxHeartbeats 12800000 in
set_option maxRecDepth 100000 in
theorem InstR_spec {S T : Nat → Prop} {w : World} {v u : Value} {g : Prog} {r : Rule} (hg : ProgV S w v g) (hr : RulV T w u r) (h1 : 0 ≤ r.head ∧ r.head < g.atoms.length)
    (h2 : ∀ x ∈ r.pos, 0 ≤ x ∧ x < g.atoms.length) (h3 : ∀ x ∈ r.neg, 0 ≤ x ∧ x < g.atoms.length) (hl1 : r.pos.length ≤ 100000) (hl2 : r.neg.length ≤ 100000) :
    Calls Tryz.prog 27 #[v, u] w (Ret (fun o w' => InsV (Fr S w) w' o (instG g r)) w) := by
  obtain ⟨va, vr, rfl, hA, hR⟩ := hg
  have HA := Lib.hid hA.bnd
  obtain ⟨ra, rc, rfl⟩ := hR.shape
  obtain ⟨aa, ac, rfl⟩ := hA.shape
  obtain ⟨p, n, rfl, -, hp, hn⟩ := hr
  have HX := Lib.hid hp.bnd
  have HY := Lib.hid hn.bnd
  have H2 := Lib.hid h2
  have H3 := Lib.hid h3
  obtain ⟨pa, pc, rfl⟩ := hp.shape
  obtain ⟨na, nc, rfl⟩ := hn.shape
  obtain ⟨hk0, hat0⟩ := atG_at h1.1 h1.2
  obtain ⟨_, _, ee, -, -, -, -, y5⟩ := HA.out
  simp only [Value.slice.injEq, true_and] at ee
  obtain ⟨rfl, rfl⟩ := ee
  obtain ⟨b, off, p1, n1, rfl, ⟨hSb, hbW⟩, hb, hc, hX0⟩ := y5.seq hk0
  have HX0 := Lib.hid hX0
  obtain ⟨h10, h11⟩ := h1
  obtain ⟨x, hx⟩ : ∃ x, x = g.atoms[r.head.toNat] := ⟨_, rfl⟩
  have hxe := Lib.hid (show atG g r.head = x by rw [hx]; exact hat0)
  rw [← hx] at hc HX0
  clear hA hR hp hn h2 h3 y5 hX0 hx hat0
  obtain ⟨W3, hW3⟩ : ∃ W3, W3 = ((w.alloc (.cells #[.slice (some ⟨b, off, none⟩) g.atoms.length ac, .slice ra g.rules.length rc] 26)).alloc (.cells #[.int .i64 r.head, .slice pa r.pos.length pc, .slice na r.neg.length nc] 46)).alloc (.cells #[.slice none 0 0, .slice none 0 0, .slice none 0 0] 41) := ⟨_, rfl⟩
  have HB3 := Lib.hid (show Below w.heap.size w W3 by rw [hW3]; exact Seq.way)
  have hz3 := Lib.hid (show W3.heap.size = w.heap.size + 3 by rw [hW3]; simp)
  have HP3 := Lib.hid (show Row 26 W3 w.heap.size [.slice (some ⟨b, off, none⟩) g.atoms.length ac, .slice ra g.rules.length rc] by rw [hW3]; exact ((Row.new w [_, _] _ rfl).alloc _).alloc _)
  have HQ3 := Lib.hid (show Row 46 W3 (w.heap.size + 1) [.int .i64 r.head, .slice pa r.pos.length pc, .slice na r.neg.length nc] by rw [hW3]; exact (Row.new _ [_, _, _] _ (by simp)).alloc _)
  have HZ3 := Lib.hid (show Row 41 W3 (w.heap.size + 1 + 1) [.slice none 0 0, .slice none 0 0, .slice none 0 0] by rw [hW3]; exact Row.new _ [_, _, _] _ (by simp))
  have HW3 := Lib.hid hW3
  clear hW3
  obtain ⟨W, hW⟩ : ∃ W, W = W3.alloc (.cells #[.slice p1 x.length n1, .slice none 0 0, .slice none 0 0] 41) := ⟨_, rfl⟩
  have HB := Lib.hid (show Below w.heap.size w W by rw [hW]; exact HB3.out.alloc HB3.out.size _)
  have hz31 : W3.heap.size ≤ w.heap.size + 3 := Nat.le_of_eq hz3.out
  have hz32 : w.heap.size + 3 ≤ W3.heap.size := Nat.le_of_eq hz3.out.symm
  have hzW1 : W3.heap.size + 1 ≤ W.heap.size := by rw [hW]; simp
  have HP := Lib.hid (show Row 26 W w.heap.size _ by rw [hW]; exact HP3.out.alloc _)
  have HQ := Lib.hid (show Row 46 W (w.heap.size + 1) _ by rw [hW]; exact HQ3.out.alloc _)
  have HZ := Lib.hid (show Row 41 W (w.heap.size + 1 + 1) _ by rw [hW]; exact HZ3.out.alloc _)
  have HO0 := Lib.hid (show Row 41 W W3.heap.size [.slice p1 x.length n1, .slice none 0 0, .slice none 0 0] by rw [hW]; exact Row.new _ [_, _, _] _ rfl)
  have HW := Lib.hid hW
  clear hW
  go_enter Tryz.func27, Tryz.ntmps27
  go_upto_region 1 with fail
  rw [← HW3.out]
  have d0 := HP3.out.cell (j := 0) (by simp)
  have f0 := HQ3.out.cell (j := 0) (by simp)
  simp only [List.getElem_cons_zero] at d0 f0
  have e0 := (HB3.out.cell (p := ⟨b, off + r.head.toNat, none⟩) hb).trans hc
  go_upto_region 2 with fail
  rw [← HW.out]
  clear d0 f0 e0
  go_wp2_with fail
  go_loopw [6] (fun i wr => ∃ (k : Nat) (va : Value), i = .int .i64 k ∧ k ≤ r.pos.length ∧ Hid (Row 41 wr W3.heap.size [.slice p1 x.length n1, va, .slice none 0 0]) ∧ Hid (Own (seqE cellE) (fun b => S b ∧ b < w.heap.size) W.heap.size 33 wr va ((r.pos.take k).map (atG g))) ∧ Hid (W.grownBy wr (some W3.heap.size))) (fun i _ => r.pos.length - (intOf i).toNat)
  case atStart => exact ⟨0, _, rfl, Nat.zero_le _, HO0, Lib.hid (Own.nil _ _ _ _ _), Lib.hid (gr_refl _ _)⟩
  case round =>
    skip
    obtain ⟨k, vo1, rfl, hk, hrow1, hO, hgr1⟩ := hrel
    have hzr1 := hgr1.out.size
    have hbw1 := Lib.hid (HB.out.trans (gr_below hgr1.out (B := w.heap.size) (by omega) (by omega)))
    have HPr1 := Lib.hid (HP.out.at (hgr1.out.block _ HP.out.lt (by simp <;> omega)))
    have HQr1 := Lib.hid (HQ.out.at (hgr1.out.block _ HQ.out.lt (by simp <;> omega)))
    have HZr1 := Lib.hid (HZ.out.at (hgr1.out.block _ HZ.out.lt (by simp <;> omega)))
    have d0 := HPr1.out.cell (j := 0) (by simp)
    have f1 := HQr1.out.cell (j := 1) (by simp)
    have o1 := hrow1.out.cell (j := 1) (by simp)
    simp only [List.getElem_cons_zero, List.getElem_cons_succ] at d0 f1 o1
    by_cases hlt : k < r.pos.length
    · obtain ⟨_, _, ee, -, -, -, -, x5⟩ := (HX.out.at hbw1.out)
      simp only [Value.slice.injEq, true_and] at ee
      obtain ⟨rfl, rfl⟩ := ee
      obtain ⟨b3, off3, rfl, ⟨-, hbW3⟩, hb3, hc3, -⟩ := x5.int hlt
      obtain ⟨h20, h21⟩ := H2.out _ (List.getElem_mem hlt)
      obtain ⟨_, _, ee, -, -, -, -, y5⟩ := (HA.out.at hbw1.out)
      simp only [Value.slice.injEq, true_and] at ee
      obtain ⟨ee, rfl⟩ := ee
      obtain ⟨hk2, hat2⟩ := atG_at h20 h21
      obtain ⟨b2, off2, p2, n2, e2, ⟨-, hbW2⟩, hb2, hc2, hX2⟩ := y5.seq hk2
      rw [← ee] at e2
      simp only [Option.some.injEq, Addr.mk.injEq, and_true] at e2
      obtain ⟨rfl, rfl⟩ := e2
      have HX2 := Lib.hid hX2
      have hst := Lib.hid (map_snoc (atG g) hlt)
      have hQl : ((r.pos.take k).map (atG g)).length ≤ 100000 := by rw [List.length_map, List.length_take]; omega
      obtain ⟨Q, hQ⟩ : ∃ Q, Q = (r.pos.take k).map (atG g) := ⟨_, rfl⟩
      rw [← hQ] at hO hst hQl
      rw [hat2] at hst
      obtain ⟨y, hy⟩ : ∃ y, y = g.atoms[r.pos[k].toNat] := ⟨_, rfl⟩
      rw [← hy] at hc2 HX2 hst
      obtain ⟨j, hj⟩ : ∃ j, j = r.pos[k] := ⟨_, rfl⟩
      rw [← hj] at hc3 hc2 h20 h21
      obtain ⟨oa, oc, rfl, -, -⟩ := hO.out.shape
      have hkl : (k : Int) < (r.pos.length : Int) := by omega
      have hk00 : (0 : Int) ≤ (k : Int) := by omega
      clear hX2 hy x5 y5 hQ hj hat2 ee hk2
      go_upto_region 5 with fail
      have Hkeep := fun {Wk : World} (hW : Below W.heap.size wr Wk) => Lib.hid (show Wk.cell? ⟨W3.heap.size, 1, none⟩ = some (.slice oa Q.length oc) ∧ Wk.cell? ⟨w.heap.size, 0, none⟩ = some (.slice (some ⟨b, off, none⟩) g.atoms.length ac) ∧ Wk.cell? ⟨w.heap.size + 1, 1, none⟩ = some (.slice (some ⟨b3, off3, none⟩) r.pos.length pc) ∧ Wk.cell? ⟨b3, off3 + k, none⟩ = some (.int .i64 j) ∧ Wk.cell? ⟨b, off + j.toNat, none⟩ = some (.slice p2 y.length n2) from ⟨(hW.cell (p := ⟨W3.heap.size, 1, none⟩) (show W3.heap.size < W.heap.size by omega)).trans o1, (hW.cell (p := ⟨w.heap.size, 0, none⟩) (show w.heap.size < W.heap.size by omega)).trans d0, (hW.cell (p := ⟨w.heap.size + 1, 1, none⟩) (show w.heap.size + 1 < W.heap.size by omega)).trans f1, (hW.cell (p := ⟨b3, off3 + k, none⟩) (show b3 < W.heap.size by omega)).trans hc3, (hW.cell (p := ⟨b, off + j.toNat, none⟩) (show b < W.heap.size by omega)).trans hc2⟩)
      (try simp only [List.append_eq, List.cons_append, List.nil_append])
      refine wp_region_noPanic ?_
      refine wp_region_last (S := fun w' => w'.cell? ⟨W3.heap.size, 1, none⟩ = some (.slice oa Q.length oc) ∧ w'.cell? ⟨w.heap.size, 0, none⟩ = some (.slice (some ⟨b, off, none⟩) g.atoms.length ac) ∧ w'.cell? ⟨w.heap.size + 1, 1, none⟩ = some (.slice (some ⟨b3, off3, none⟩) r.pos.length pc) ∧ w'.cell? ⟨b3, off3 + k, none⟩ = some (.int .i64 j) ∧ w'.cell? ⟨b, off + j.toNat, none⟩ = some (.slice p2 y.length n2)) (by kernel_rfl) ?_ rfl ?_ (fun hHeld => ?_)
      · kernel_rfl
      · exact (Hkeep (Below.drew (Below.refl _ _))).out
      dsimp only [List.dropLast]
      refine wpAnyH_take1 (i := 0) (oi := _) (v := ?_) (by kernel_rfl) rfl (by kernel_rfl) (fun _ _ _ h => h) (Or.inl ⟨by rfl, ?_⟩) (by assumption) ?_
      rotate_left 1
      · intro w hSw; (try dsimp only at hSw); go_simp; (with_reducible rfl)
      (try simp only [Act.put, List.getElem_toArray, List.getElem_cons_zero, List.setIfInBounds_toArray, List.set_cons_zero, List.set_cons_succ])
      refine wpAnyH_take1 (i := 1) (oi := _) (v := ?_) (by kernel_rfl) rfl (by kernel_rfl) (fun _ _ _ h => h) (Or.inl ⟨by rfl, ?_⟩) (by assumption) ?_
      rotate_left 1
      · intro w hSw; (try dsimp only at hSw); go_simp; (with_reducible rfl)
      (try simp only [Act.put, List.getElem_toArray, List.getElem_cons_zero, List.getElem_cons_succ, List.setIfInBounds_toArray, List.set_cons_zero, List.set_cons_succ])
      refine wpAnyH_take1 (i := 2) (oi := _) (v := ?_) (by kernel_rfl) rfl (by kernel_rfl) (fun _ _ _ h => h) (Or.inl ⟨by rfl, ?_⟩) (by assumption) ?_
      rotate_left 1
      · intro w hSw; (try dsimp only at hSw); go_simp; (with_reducible rfl)
      (try simp only [Act.put, List.getElem_toArray, List.getElem_cons_zero, List.getElem_cons_succ, List.setIfInBounds_toArray, List.set_cons_zero, List.set_cons_succ])
      refine wpAnyH_take1 (i := 3) (oi := _) (v := ?_) (by kernel_rfl) rfl (by kernel_rfl) (fun _ _ _ h => h) (Or.inl ⟨by rfl, ?_⟩) (by assumption) ?_
      rotate_left 1
      · intro w hSw; (try dsimp only at hSw); go_simp; (with_reducible rfl)
      (try simp only [Act.put, List.getElem_toArray, List.getElem_cons_zero, List.getElem_cons_succ, List.setIfInBounds_toArray, List.set_cons_zero, List.set_cons_succ])
      refine wpAnyH_take1 (i := 4) (oi := _) (v := ?_) (by kernel_rfl) rfl (by kernel_rfl) (fun _ _ _ h => h) (Or.inl ⟨by rfl, ?_⟩) (by assumption) ?_
      rotate_left 1
      · intro w hSw; (try dsimp only at hSw); go_simp; (with_reducible rfl)
      (try simp only [Act.put, List.getElem_toArray, List.getElem_cons_zero, List.getElem_cons_succ, List.setIfInBounds_toArray, List.set_cons_zero, List.set_cons_succ])
      refine wpAnyH_take1 (i := 5) (oi := _) (v := ?_) (by kernel_rfl) rfl (by kernel_rfl) (fun _ _ _ h => h) (Or.inl ⟨by rfl, ?_⟩) (by assumption) ?_
      rotate_left 1
      · intro w hSw; (try dsimp only at hSw); go_simp; (with_reducible rfl)
      (try simp only [Act.put, List.getElem_toArray, List.getElem_cons_zero, List.getElem_cons_succ, List.setIfInBounds_toArray, List.set_cons_zero, List.set_cons_succ])
      refine wpAnyH_take1 (i := 6) (oi := _) (v := ?_) (by kernel_rfl) rfl (by kernel_rfl) (fun _ _ _ h => h) (Or.inl ⟨by rfl, ?_⟩) (by assumption) ?_
      rotate_left 1
      · intro w hSw; (try dsimp only at hSw); go_simp; (with_reducible rfl)
      (try simp only [Act.put, List.getElem_toArray, List.getElem_cons_zero, List.getElem_cons_succ, List.setIfInBounds_toArray, List.set_cons_zero, List.set_cons_succ])
      refine wpAnyH_take1 (i := 7) (oi := _) (v := ?_) (by kernel_rfl) rfl (by kernel_rfl) (fun _ _ _ h => h) (Or.inl ⟨by rfl, ?_⟩) (by assumption) ?_
      rotate_left 1
      · intro w hSw; (try dsimp only at hSw); go_simp; (with_reducible rfl)
      (try simp only [Act.put, List.getElem_toArray, List.getElem_cons_zero, List.getElem_cons_succ, List.setIfInBounds_toArray, List.set_cons_zero, List.set_cons_succ])
      refine wpAnyH_take1 (i := 8) (oi := _) (v := ?_) (by kernel_rfl) rfl (by kernel_rfl) (fun _ _ _ h => h) (Or.inl ⟨by rfl, ?_⟩) (by assumption) ?_
      rotate_left 1
      · intro w hSw; (try dsimp only at hSw); go_simp; (with_reducible rfl)
      (try simp only [Act.put, List.getElem_toArray, List.getElem_cons_zero, List.getElem_cons_succ, List.setIfInBounds_toArray, List.set_cons_zero, List.set_cons_succ])
      refine wpAnyH_take1 (i := 9) (oi := _) (v := ?_) (by kernel_rfl) rfl (by kernel_rfl) (fun _ _ _ h => h) (Or.inl ⟨by rfl, ?_⟩) (by assumption) ?_
      rotate_left 1
      · intro w hSw; (try dsimp only at hSw); go_simp; (with_reducible rfl)
      (try simp only [Act.put, List.getElem_toArray, List.getElem_cons_zero, List.getElem_cons_succ, List.setIfInBounds_toArray, List.set_cons_zero, List.set_cons_succ])
      refine wpAnyH_take1 (i := 10) (oi := _) (v := ?_) (by kernel_rfl) rfl (by kernel_rfl) (fun _ _ _ h => h) (Or.inl ⟨by rfl, ?_⟩) (by assumption) ?_
      rotate_left 1
      · intro w hSw; (try dsimp only at hSw); go_simp; (with_reducible rfl)
      (try simp only [Act.put, List.getElem_toArray, List.getElem_cons_zero, List.getElem_cons_succ, List.setIfInBounds_toArray, List.set_cons_zero, List.set_cons_succ])
      refine wpAnyH_one (i := 11) (by kernel_rfl) rfl (by rfl) fun K hK => ?_
      go_simp
      (try dsimp only)
      clear hHeld
      refine hK.out _ _ (Hkeep (Below.mono (Seq.way : Below wr.heap.size wr _) hzr1)).out fun hHeld => ?_
      clear hK K
      (try simp only [Act.put, List.getElem_toArray, List.getElem_cons_zero, List.getElem_cons_succ, List.setIfInBounds_toArray, List.set_cons_zero, List.set_cons_succ])
      refine wpAnyH_one (i := 12) (by kernel_rfl) rfl (by rfl) fun K hK => ?_
      refine (wp_app_seqK (E := cellE) (S := fun b => S b ∧ b < w.heap.size) (Sy := fun b => S b ∧ b < w.heap.size) (base := W.heap.size) (wm := wr) (y := y) (vy := .slice p2 y.length n2) _ _ 23 rfl Tryz.underlying23 infoSeq rfl hO.out rfl Seq.way (HX2.out.at Seq.way) (fun b h _ => ⟨h, .inl (by omega)⟩) ((Row.new _ [_] _ rfl).cell (j := 0) (by simp)) (by omega) hzr1 ?_)
      intro ao5 cap5 w5 hown5 hk5
      have H5 := Lib.hid hown5
      have B5 := Lib.hid (Below.trans (Below.mono (Seq.way : Below wr.heap.size wr _) hzr1) hk5.below)
      have row5 := Lib.hid (hrow1.out.at (B5.out.block _ (show W3.heap.size < W.heap.size by omega)))
      have fz5 := row5.out.frozen 1
      have oc5 := row5.out.cell (j := 1) (by simp)
      simp only [List.getElem_cons_zero, List.getElem_cons_succ] at oc5
      clear hown5 hk5
      clear hHeld
      refine hK.out _ _ (Hkeep B5.out).out fun hHeld => ?_
      clear hK K
      (try simp only [Act.put, List.getElem_toArray, List.getElem_cons_zero, List.getElem_cons_succ, List.setIfInBounds_toArray, List.set_cons_zero, List.set_cons_succ])
      refine wpAnyH_take1 (i := 13) (oi := _) (v := ?_) (by kernel_rfl) rfl (by kernel_rfl) (fun _ _ _ h => h) (Or.inl ⟨by rfl, ?_⟩) (by assumption) ?_
      rotate_left 1
      · intro w hSw; (try dsimp only at hSw); go_simp; (with_reducible rfl)
      (try simp only [Act.put, List.getElem_toArray, List.getElem_cons_zero, List.getElem_cons_succ, List.setIfInBounds_toArray, List.set_cons_zero, List.set_cons_succ])
      refine wpAnyH_done (by kernel_rfl) ?_ _
      refine (show Oper.wp _ _ _ _ _ _ from ?_)
      clear hHeld
      go_simp
      refine NoPanic.normal ?_
      go_wp2_with fail
      go_roundw
      case rel =>
        refine ⟨k + 1, .slice ao5 (Q.length + 1) cap5, by go_num, hlt, Lib.hid ?_, Lib.hid ?_, Lib.hid ?_⟩
        · exact ((hrow1.out.at (B5.out.block _ (show W3.heap.size < W.heap.size by omega))).set 1 _)
        · rw [hst.out]
          exact own_set (by simpa using H5.out) (by omega) fun b h => by have := h.2; omega
        · exact gr_trans (gr_of hgr1.out B5.out) (gr_set _ _ _ _)
      case measure => simp [intOf]; omega
    · obtain rfl : k = r.pos.length := by omega
      have HO1 := Lib.hid (show Own (seqE cellE) (fun b => S b ∧ b < w.heap.size) W.heap.size 33 wr vo1 (r.pos.map (atG g)) by have := hO.out; rwa [List.take_length] at this)
      have hkl : ¬ (r.pos.length : Int) < (r.pos.length : Int) := by omega
      clear hO hlt hk
      obtain ⟨wz, rfl⟩ : ∃ wz, wz = wr := ⟨_, rfl⟩
      go_wp2_with fail
      go_loopw [7] (fun i wr => ∃ (k : Nat) (va : Value), i = .int .i64 k ∧ k ≤ r.neg.length ∧ Hid (Row 41 wr W3.heap.size [.slice p1 x.length n1, vo1, va]) ∧ Hid (Own (seqE cellE) (fun b => S b ∧ b < w.heap.size) wz.heap.size 33 wr va ((r.neg.take k).map (atG g))) ∧ Hid (wz.grownBy wr (some W3.heap.size))) (fun i _ => r.neg.length - (intOf i).toNat)
      case atStart => exact ⟨0, _, rfl, Nat.zero_le _, hrow1, Lib.hid (Own.nil _ _ _ _ _), Lib.hid (gr_refl _ _)⟩
      case round =>
        clear hkl d0 f1 o1
        obtain ⟨k, vo2, rfl, hk, hrow2, hO, hgr2⟩ := hrel
        have hzr2 := hgr2.out.size
        have hbw2 := Lib.hid (hbw1.out.trans (gr_below hgr2.out (B := w.heap.size) (by omega) (by omega)))
        have HPr2 := Lib.hid (HPr1.out.at (hgr2.out.block _ HPr1.out.lt (by simp <;> omega)))
        have HQr2 := Lib.hid (HQr1.out.at (hgr2.out.block _ HQr1.out.lt (by simp <;> omega)))
        have HZr2 := Lib.hid (HZr1.out.at (hgr2.out.block _ HZr1.out.lt (by simp <;> omega)))
        have d0 := HPr2.out.cell (j := 0) (by simp)
        have f2 := HQr2.out.cell (j := 2) (by simp)
        have o2 := hrow2.out.cell (j := 2) (by simp)
        simp only [List.getElem_cons_zero, List.getElem_cons_succ] at d0 f2 o2
        by_cases hlt : k < r.neg.length
        · obtain ⟨_, _, ee, -, -, -, -, x5⟩ := (HY.out.at hbw2.out)
          simp only [Value.slice.injEq, true_and] at ee
          obtain ⟨rfl, rfl⟩ := ee
          obtain ⟨b3, off3, rfl, ⟨-, hbW3⟩, hb3, hc3, -⟩ := x5.int hlt
          obtain ⟨h20, h21⟩ := H3.out _ (List.getElem_mem hlt)
          obtain ⟨_, _, ee, -, -, -, -, y5⟩ := (HA.out.at hbw2.out)
          simp only [Value.slice.injEq, true_and] at ee
          obtain ⟨ee, rfl⟩ := ee
          obtain ⟨hk2, hat2⟩ := atG_at h20 h21
          obtain ⟨b2, off2, p2, n2, e2, ⟨-, hbW2⟩, hb2, hc2, hX2⟩ := y5.seq hk2
          rw [← ee] at e2
          simp only [Option.some.injEq, Addr.mk.injEq, and_true] at e2
          obtain ⟨rfl, rfl⟩ := e2
          have HX2 := Lib.hid hX2
          have hst := Lib.hid (map_snoc (atG g) hlt)
          have hQl : ((r.neg.take k).map (atG g)).length ≤ 100000 := by rw [List.length_map, List.length_take]; omega
          obtain ⟨Q, hQ⟩ : ∃ Q, Q = (r.neg.take k).map (atG g) := ⟨_, rfl⟩
          rw [← hQ] at hO hst hQl
          rw [hat2] at hst
          obtain ⟨y, hy⟩ : ∃ y, y = g.atoms[r.neg[k].toNat] := ⟨_, rfl⟩
          rw [← hy] at hc2 HX2 hst
          obtain ⟨j, hj⟩ : ∃ j, j = r.neg[k] := ⟨_, rfl⟩
          rw [← hj] at hc3 hc2 h20 h21
          obtain ⟨oa, oc, rfl, -, -⟩ := hO.out.shape
          have hkl : (k : Int) < (r.neg.length : Int) := by omega
          have hk00 : (0 : Int) ≤ (k : Int) := by omega
          clear hX2 hy x5 y5 hQ hj hat2 ee hk2
          go_upto_region 9 with fail
          have Hkeep := fun {Wk : World} (hW : Below wz.heap.size wr Wk) => Lib.hid (show Wk.cell? ⟨W3.heap.size, 2, none⟩ = some (.slice oa Q.length oc) ∧ Wk.cell? ⟨w.heap.size, 0, none⟩ = some (.slice (some ⟨b, off, none⟩) g.atoms.length ac) ∧ Wk.cell? ⟨w.heap.size + 1, 2, none⟩ = some (.slice (some ⟨b3, off3, none⟩) r.neg.length nc) ∧ Wk.cell? ⟨b3, off3 + k, none⟩ = some (.int .i64 j) ∧ Wk.cell? ⟨b, off + j.toNat, none⟩ = some (.slice p2 y.length n2) from ⟨(hW.cell (p := ⟨W3.heap.size, 2, none⟩) (show W3.heap.size < wz.heap.size by omega)).trans o2, (hW.cell (p := ⟨w.heap.size, 0, none⟩) (show w.heap.size < wz.heap.size by omega)).trans d0, (hW.cell (p := ⟨w.heap.size + 1, 2, none⟩) (show w.heap.size + 1 < wz.heap.size by omega)).trans f2, (hW.cell (p := ⟨b3, off3 + k, none⟩) (show b3 < wz.heap.size by omega)).trans hc3, (hW.cell (p := ⟨b, off + j.toNat, none⟩) (show b < wz.heap.size by omega)).trans hc2⟩)
          (try simp only [List.append_eq, List.cons_append, List.nil_append])
          refine wp_region_noPanic ?_
          refine wp_region_last (S := fun w' => w'.cell? ⟨W3.heap.size, 2, none⟩ = some (.slice oa Q.length oc) ∧ w'.cell? ⟨w.heap.size, 0, none⟩ = some (.slice (some ⟨b, off, none⟩) g.atoms.length ac) ∧ w'.cell? ⟨w.heap.size + 1, 2, none⟩ = some (.slice (some ⟨b3, off3, none⟩) r.neg.length nc) ∧ w'.cell? ⟨b3, off3 + k, none⟩ = some (.int .i64 j) ∧ w'.cell? ⟨b, off + j.toNat, none⟩ = some (.slice p2 y.length n2)) (by kernel_rfl) ?_ rfl ?_ (fun hHeld => ?_)
          · kernel_rfl
          · exact (Hkeep (Below.drew (Below.refl _ _))).out
          dsimp only [List.dropLast]
          refine wpAnyH_take1 (i := 0) (oi := _) (v := ?_) (by kernel_rfl) rfl (by kernel_rfl) (fun _ _ _ h => h) (Or.inl ⟨by rfl, ?_⟩) (by assumption) ?_
          rotate_left 1
          · intro w hSw; (try dsimp only at hSw); go_simp; (with_reducible rfl)
          (try simp only [Act.put, List.getElem_toArray, List.getElem_cons_zero, List.setIfInBounds_toArray, List.set_cons_zero, List.set_cons_succ])
          refine wpAnyH_take1 (i := 1) (oi := _) (v := ?_) (by kernel_rfl) rfl (by kernel_rfl) (fun _ _ _ h => h) (Or.inl ⟨by rfl, ?_⟩) (by assumption) ?_
          rotate_left 1
          · intro w hSw; (try dsimp only at hSw); go_simp; (with_reducible rfl)
          (try simp only [Act.put, List.getElem_toArray, List.getElem_cons_zero, List.getElem_cons_succ, List.setIfInBounds_toArray, List.set_cons_zero, List.set_cons_succ])
          refine wpAnyH_take1 (i := 2) (oi := _) (v := ?_) (by kernel_rfl) rfl (by kernel_rfl) (fun _ _ _ h => h) (Or.inl ⟨by rfl, ?_⟩) (by assumption) ?_
          rotate_left 1
          · intro w hSw; (try dsimp only at hSw); go_simp; (with_reducible rfl)
          (try simp only [Act.put, List.getElem_toArray, List.getElem_cons_zero, List.getElem_cons_succ, List.setIfInBounds_toArray, List.set_cons_zero, List.set_cons_succ])
          refine wpAnyH_take1 (i := 3) (oi := _) (v := ?_) (by kernel_rfl) rfl (by kernel_rfl) (fun _ _ _ h => h) (Or.inl ⟨by rfl, ?_⟩) (by assumption) ?_
          rotate_left 1
          · intro w hSw; (try dsimp only at hSw); go_simp; (with_reducible rfl)
          (try simp only [Act.put, List.getElem_toArray, List.getElem_cons_zero, List.getElem_cons_succ, List.setIfInBounds_toArray, List.set_cons_zero, List.set_cons_succ])
          refine wpAnyH_take1 (i := 4) (oi := _) (v := ?_) (by kernel_rfl) rfl (by kernel_rfl) (fun _ _ _ h => h) (Or.inl ⟨by rfl, ?_⟩) (by assumption) ?_
          rotate_left 1
          · intro w hSw; (try dsimp only at hSw); go_simp; (with_reducible rfl)
          (try simp only [Act.put, List.getElem_toArray, List.getElem_cons_zero, List.getElem_cons_succ, List.setIfInBounds_toArray, List.set_cons_zero, List.set_cons_succ])
          refine wpAnyH_take1 (i := 5) (oi := _) (v := ?_) (by kernel_rfl) rfl (by kernel_rfl) (fun _ _ _ h => h) (Or.inl ⟨by rfl, ?_⟩) (by assumption) ?_
          rotate_left 1
          · intro w hSw; (try dsimp only at hSw); go_simp; (with_reducible rfl)
          (try simp only [Act.put, List.getElem_toArray, List.getElem_cons_zero, List.getElem_cons_succ, List.setIfInBounds_toArray, List.set_cons_zero, List.set_cons_succ])
          refine wpAnyH_take1 (i := 6) (oi := _) (v := ?_) (by kernel_rfl) rfl (by kernel_rfl) (fun _ _ _ h => h) (Or.inl ⟨by rfl, ?_⟩) (by assumption) ?_
          rotate_left 1
          · intro w hSw; (try dsimp only at hSw); go_simp; (with_reducible rfl)
          (try simp only [Act.put, List.getElem_toArray, List.getElem_cons_zero, List.getElem_cons_succ, List.setIfInBounds_toArray, List.set_cons_zero, List.set_cons_succ])
          refine wpAnyH_take1 (i := 7) (oi := _) (v := ?_) (by kernel_rfl) rfl (by kernel_rfl) (fun _ _ _ h => h) (Or.inl ⟨by rfl, ?_⟩) (by assumption) ?_
          rotate_left 1
          · intro w hSw; (try dsimp only at hSw); go_simp; (with_reducible rfl)
          (try simp only [Act.put, List.getElem_toArray, List.getElem_cons_zero, List.getElem_cons_succ, List.setIfInBounds_toArray, List.set_cons_zero, List.set_cons_succ])
          refine wpAnyH_take1 (i := 8) (oi := _) (v := ?_) (by kernel_rfl) rfl (by kernel_rfl) (fun _ _ _ h => h) (Or.inl ⟨by rfl, ?_⟩) (by assumption) ?_
          rotate_left 1
          · intro w hSw; (try dsimp only at hSw); go_simp; (with_reducible rfl)
          (try simp only [Act.put, List.getElem_toArray, List.getElem_cons_zero, List.getElem_cons_succ, List.setIfInBounds_toArray, List.set_cons_zero, List.set_cons_succ])
          refine wpAnyH_take1 (i := 9) (oi := _) (v := ?_) (by kernel_rfl) rfl (by kernel_rfl) (fun _ _ _ h => h) (Or.inl ⟨by rfl, ?_⟩) (by assumption) ?_
          rotate_left 1
          · intro w hSw; (try dsimp only at hSw); go_simp; (with_reducible rfl)
          (try simp only [Act.put, List.getElem_toArray, List.getElem_cons_zero, List.getElem_cons_succ, List.setIfInBounds_toArray, List.set_cons_zero, List.set_cons_succ])
          refine wpAnyH_take1 (i := 10) (oi := _) (v := ?_) (by kernel_rfl) rfl (by kernel_rfl) (fun _ _ _ h => h) (Or.inl ⟨by rfl, ?_⟩) (by assumption) ?_
          rotate_left 1
          · intro w hSw; (try dsimp only at hSw); go_simp; (with_reducible rfl)
          (try simp only [Act.put, List.getElem_toArray, List.getElem_cons_zero, List.getElem_cons_succ, List.setIfInBounds_toArray, List.set_cons_zero, List.set_cons_succ])
          refine wpAnyH_one (i := 11) (by kernel_rfl) rfl (by rfl) fun K hK => ?_
          go_simp
          (try dsimp only)
          clear hHeld
          refine hK.out _ _ (Hkeep (Below.mono (Seq.way : Below wr.heap.size wr _) hzr2)).out fun hHeld => ?_
          clear hK K
          (try simp only [Act.put, List.getElem_toArray, List.getElem_cons_zero, List.getElem_cons_succ, List.setIfInBounds_toArray, List.set_cons_zero, List.set_cons_succ])
          refine wpAnyH_one (i := 12) (by kernel_rfl) rfl (by rfl) fun K hK => ?_
          refine (wp_app_seqK (E := cellE) (S := fun b => S b ∧ b < w.heap.size) (Sy := fun b => S b ∧ b < w.heap.size) (base := wz.heap.size) (wm := wr) (y := y) (vy := .slice p2 y.length n2) _ _ 23 rfl Tryz.underlying23 infoSeq rfl hO.out rfl Seq.way (HX2.out.at Seq.way) (fun b h _ => ⟨h, .inl (by omega)⟩) ((Row.new _ [_] _ rfl).cell (j := 0) (by simp)) (by omega) hzr2 ?_)
          intro ao5 cap5 w5 hown5 hk5
          have H5 := Lib.hid hown5
          have B5 := Lib.hid (Below.trans (Below.mono (Seq.way : Below wr.heap.size wr _) hzr2) hk5.below)
          have row5 := Lib.hid (hrow2.out.at (B5.out.block _ (show W3.heap.size < wz.heap.size by omega)))
          have fz5 := row5.out.frozen 2
          have oc5 := row5.out.cell (j := 2) (by simp)
          simp only [List.getElem_cons_zero, List.getElem_cons_succ] at oc5
          clear hown5 hk5
          clear hHeld
          refine hK.out _ _ (Hkeep B5.out).out fun hHeld => ?_
          clear hK K
          (try simp only [Act.put, List.getElem_toArray, List.getElem_cons_zero, List.getElem_cons_succ, List.setIfInBounds_toArray, List.set_cons_zero, List.set_cons_succ])
          refine wpAnyH_take1 (i := 13) (oi := _) (v := ?_) (by kernel_rfl) rfl (by kernel_rfl) (fun _ _ _ h => h) (Or.inl ⟨by rfl, ?_⟩) (by assumption) ?_
          rotate_left 1
          · intro w hSw; (try dsimp only at hSw); go_simp; (with_reducible rfl)
          (try simp only [Act.put, List.getElem_toArray, List.getElem_cons_zero, List.getElem_cons_succ, List.setIfInBounds_toArray, List.set_cons_zero, List.set_cons_succ])
          refine wpAnyH_done (by kernel_rfl) ?_ _
          refine (show Oper.wp _ _ _ _ _ _ from ?_)
          clear hHeld
          go_simp
          refine NoPanic.normal ?_
          go_wp2_with fail
          go_roundw
          case rel =>
            refine ⟨k + 1, .slice ao5 (Q.length + 1) cap5, by go_num, hlt, Lib.hid ?_, Lib.hid ?_, Lib.hid ?_⟩
            · exact ((hrow2.out.at (B5.out.block _ (show W3.heap.size < wz.heap.size by omega))).set 2 _)
            · rw [hst.out]
              exact own_set (by simpa using H5.out) (by omega) fun b h => by have := h.2; omega
            · exact gr_trans (gr_of hgr2.out B5.out) (gr_set _ _ _ _)
          case measure => simp [intOf]; omega
        · obtain rfl : k = r.neg.length := by omega
          have HO2 := Lib.hid (show Own (seqE cellE) (fun b => S b ∧ b < w.heap.size) wz.heap.size 33 wr vo2 (r.neg.map (atG g)) by have := hO.out; rwa [List.take_length] at this)
          have hkl : ¬ (r.neg.length : Int) < (r.neg.length : Int) := by omega
          clear hO hlt hk
          have q0 := hrow2.out.cell (j := 0) (by simp)
          have q1 := hrow2.out.cell (j := 1) (by simp)
          have r0 := HZr2.out.cell (j := 0) (by simp)
          have r1 := HZr2.out.cell (j := 1) (by simp)
          have r2 := HZr2.out.cell (j := 2) (by simp)
          simp only [List.getElem_cons_zero, List.getElem_cons_succ] at q0 q1 r0 r1 r2
          have fz0 := HZr2.out.frozen 0
          have fz1 := HZr2.out.frozen 1
          have fz2 := HZr2.out.frozen 2
          obtain ⟨A, hAe⟩ : ∃ A, A = r.pos.map (atG g) := ⟨_, rfl⟩
          obtain ⟨B, hBe⟩ : ∃ B, B = r.neg.map (atG g) := ⟨_, rfl⟩
          have hAl : A.length ≤ 100000 := by rw [hAe, List.length_map]; omega
          have hBl : B.length ≤ 100000 := by rw [hBe, List.length_map]; omega
          have he := Lib.hid (show instG g r = ⟨x, A, B⟩ by rw [instG_eq, hxe.out, hAe, hBe])
          rw [← hAe] at HO1
          rw [← hBe] at HO2
          obtain ⟨oa, oc, rfl, -, -⟩ := HO1.out.shape
          obtain ⟨oa2, oc2, rfl, -, -⟩ := HO2.out.shape
          clear hAe hBe
          go_wp2_with fail
          have g3 := ((HZr2.out.set 0 (.slice p1 x.length n1)).set 1 (.slice oa A.length oc)).set 2 (.slice oa2 B.length oc2)
          have s0 : (((wr.setCell ⟨w.heap.size + 1 + 1, 0, none⟩ (.slice p1 x.length n1)).setCell ⟨w.heap.size + 1 + 1, 1, none⟩ (.slice oa A.length oc)).setCell ⟨w.heap.size + 1 + 1, 2, none⟩ (.slice oa2 B.length oc2)).cell? ⟨w.heap.size + 1 + 1, 0, none⟩ = some (.slice p1 x.length n1) := g3.cell (j := 0) (by simp)
          have s1 : (((wr.setCell ⟨w.heap.size + 1 + 1, 0, none⟩ (.slice p1 x.length n1)).setCell ⟨w.heap.size + 1 + 1, 1, none⟩ (.slice oa A.length oc)).setCell ⟨w.heap.size + 1 + 1, 2, none⟩ (.slice oa2 B.length oc2)).cell? ⟨w.heap.size + 1 + 1, 1, none⟩ = some (.slice oa A.length oc) := g3.cell (j := 1) (by simp)
          have s2 : (((wr.setCell ⟨w.heap.size + 1 + 1, 0, none⟩ (.slice p1 x.length n1)).setCell ⟨w.heap.size + 1 + 1, 1, none⟩ (.slice oa A.length oc)).setCell ⟨w.heap.size + 1 + 1, 2, none⟩ (.slice oa2 B.length oc2)).cell? ⟨w.heap.size + 1 + 1, 2, none⟩ = some (.slice oa2 B.length oc2) := g3.cell (j := 2) (by simp)
          refine bodyPost_ret (v := .agg #[.slice p1 x.length n1, .slice oa A.length oc, .slice oa2 B.length oc2]) (by simp [results, Tryz.results27, go_sem, s0, s1, s2]) rfl ?_
          have hg3 := gr_trans (gr_trans (gr_set wr (w.heap.size + 1 + 1) 0 (.slice p1 x.length n1)) (gr_set _ (w.heap.size + 1 + 1) 1 (.slice oa A.length oc))) (gr_set _ (w.heap.size + 1 + 1) 2 (.slice oa2 B.length oc2))
          refine ⟨_, rfl, hbw2.out.trans (gr_below hg3 (by omega) (by omega)), ?_⟩
          rw [he.out]
          refine ⟨_, _, _, rfl, ?_, ?_, ?_⟩
          · exact (gr_seq (HX0.out.at hbw2.out) hg3 (fun b h e => by have := h.2; simp at e; omega)).mono (fun b h _ => .inl h.1) fun _ _ _ => rfl
          · exact (gr_own (gr_own HO1.out hgr2.out (fun b hb e => by have := (HO1.out.blk hb).1; simp at e; omega) fun b h e => by have := h.2; simp at e; omega) hg3 (fun b hb e => by have := (HO1.out.blk hb).1; simp at e; omega) fun b h e => by have := h.2; simp at e; omega).seq (by omega) fun b _ h => h.imp (fun h => h.1) fun h => by omega
          · exact (gr_own HO2.out hg3 (fun b hb e => by have := (HO2.out.blk hb).1; simp at e; omega) fun b h e => by have := h.2; simp at e; omega).seq (by omega) fun b _ h => h.imp (fun h => h.1) fun h => by omega
end Go.Proofs.YtaedgpcmkagpeaaGreat
