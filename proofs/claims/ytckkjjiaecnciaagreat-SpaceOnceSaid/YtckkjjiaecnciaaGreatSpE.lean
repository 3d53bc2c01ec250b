/-
  Layer 14, the document: Sort.
-/
import Derived.Test.YtckkjjiaecnciaaGreatSpD
import Derived.Test.YtckkjjiaecnciaaGreatRun
namespace Go.Proofs.YtckkjjiaecnciaaGreat
open Go Go.RowKit

theorem madeCells_two (z : Value) (n : Nat) : madeCells #[z, z] n = (List.replicate n z).toArray := by
  apply Array.ext
  · simp [madeCells]
  · intro i h1 h2
    have h3 : i % 2 = 0 ∨ i % 2 = 1 := by omega
    rcases h3 with h3 | h3 <;> simp [madeCells, h3]
theorem run_make_two {P : Program} (t e : TypeId) (z : Value) (b : Nat) (ht : P.underlying t = some (.slice e)) (hinfo : (P.info? e).map (fun i => (i.zero, i.size, i.bytes)) = some (some (.agg #[z, z]), 2, b)) (hz : (Value.agg #[z, z]).cells = #[z, z])
    (kl kc : IntKind) (n : Nat) (hbytes : b * n ≤ 281474976710656) (h63 : n ≤ 9223372036854775807) (w : World) :
    (Instr.makeSlice t (.int kl (n : Int)) (.int kc (n : Int))).run P w = .ok (.slice (some ⟨w.heap.size, 0, none⟩) n n) (w.alloc (.cells (List.replicate (n * 2) z).toArray e)) := by
  obtain ⟨i, hi, hzz⟩ := Option.map_eq_some_iff.1 hinfo
  simp only [Prod.mk.injEq] at hzz
  obtain ⟨h1, h2, h3⟩ := hzz
  have h4 : ((i.bytes * n : Nat) : Int) ≤ 281474976710656 := by rw [h3]; omega
  rw [Int.natCast_mul] at h4
  have h5 := run_make (P := P) w t e i _ ht hi h1 kl kc n n (by omega) (Int.le_refl _) h4 (by omega)
  rw [h5, Int.toNat_natCast, hz, h2, madeCells_two]
theorem own_tabs {w : World} {base n : Nat} {S : Nat → Prop} (hb : base ≤ w.heap.size) (hn : n ≤ 100000) :
    Own tabE S base 43 (w.alloc (.cells (List.replicate (n * 2) (.slice none 0 0)).toArray 43)) (.slice (some ⟨w.heap.size, 0, none⟩) n n) (List.replicate n ⟨[], []⟩) := by
  refine ⟨List.replicate (n * 2) (.slice none 0 0), ⟨by simp [tabE], .inr ⟨w.heap.size, n, _, by simp, hb, heap_alloc_new w _, by simp, by unfold maxLen; omega, by simp [tabE], by simp [tabE]⟩⟩, fun k x hx => ?_⟩
  obtain ⟨hk, hx⟩ := List.getElem?_eq_some_iff.1 hx
  rw [List.length_replicate] at hk
  rw [List.getElem_replicate] at hx
  subst hx
  refine ⟨[.slice none 0 0, .slice none 0 0], ⟨_, _, rfl, Seq.nil _ _ _, Seq.nil _ _ _⟩, fun j hj => ?_⟩
  have hj2 : j < 2 := hj
  show (List.replicate (n * 2) _)[k * 2 + j]? = _
  rw [List.getElem?_replicate, if_pos (by omega)]
  rcases (show j = 0 ∨ j = 1 by omega) with rfl | rfl <;> rfl
theorem Own.tabCells {S : Nat → Prop} {base : Nat} {e : TypeId} {w : World} {g n cap : Nat} {xs : List Tab} (h : Own tabE S base e w (.slice (some ⟨g, 0, none⟩) n cap) xs) {k : Nat} (hk : k < xs.length) :
    ∃ u1 u2, w.cell? ⟨g, k * 2, none⟩ = some u1 ∧ w.cell? ⟨g, k * 2 + 1, none⟩ = some u2 ∧ w.frozen? ⟨g, k * 2, none⟩ = false ∧ w.frozen? ⟨g, k * 2 + 1, none⟩ = false := by
  obtain ⟨vs, hv, h2⟩ := h
  obtain ⟨cs, ⟨v1, v2, rfl, -, -⟩, h4⟩ := h2 k _ (List.getElem?_eq_getElem hk)
  obtain ⟨g1, cap1, e1, -, -, c1, f1⟩ := own_cell hv (i := k * 2) (by show k * 2 < xs.length * 2; omega)
  obtain ⟨g2, cap2, e2, -, -, c2, f2⟩ := own_cell hv (i := k * 2 + 1) (by show k * 2 + 1 < xs.length * 2; omega)
  simp only [Value.slice.injEq, Option.some.injEq, Addr.mk.injEq, and_true] at e1 e2
  obtain ⟨rfl, -⟩ := e1
  obtain ⟨rfl, -⟩ := e2
  have d1 := h4 0 (by decide)
  have d2 := h4 1 (by decide)
  exact ⟨v1, v2, c1.trans d1, c2.trans d2, f1 _, f2 _⟩
theorem Own.setTab {S : Nat → Prop} {base : Nat} {e : TypeId} {w : World} {g n cap : Nat} {xs : List Tab} (h : Own tabE S base e w (.slice (some ⟨g, 0, none⟩) n cap) xs) (hn : n = xs.length) {k : Nat} (hk : k < xs.length) {y : Tab} {u1 u2 : Value}
    (h1 : Seq cellE (fun b => S b ∧ b ≠ g) w u1 y.call) (h2 : Seq (seqE cellE) (fun b => S b ∧ b ≠ g) w u2 y.ans) :
    Own tabE S base e ((w.setCell ⟨g, k * 2, none⟩ u1).setCell ⟨g, k * 2 + 1, none⟩ u2) (.slice (some ⟨g, 0, none⟩) n cap) (xs.set k y) := by
  subst hn
  obtain ⟨vs, hv1, hv2⟩ := h
  have hl : vs.length = xs.length * 2 := hv1.1
  have e1 := ownsRow_set hv1 (j := k * 2) (by show k * 2 < xs.length * 2; omega) u1
  have e2 := ownsRow_set e1 (j := k * 2 + 1) (by show k * 2 + 1 < xs.length * 2; omega) u2
  have hb : ∀ b, b ≠ g → ((w.setCell ⟨g, k * 2, none⟩ u1).setCell ⟨g, k * 2 + 1, none⟩ u2).heap[b]? = w.heap[b]? := fun b hb =>
    (Below.heap_setCell _ _ _ _ hb).trans (Below.heap_setCell _ _ _ _ hb)
  refine ⟨_, by rw [List.length_set]; exact e2, fun m x hx => ?_⟩
  by_cases hkm : k = m
  · subst hkm
    rw [List.getElem?_set_self hk] at hx
    simp only [Option.some.injEq] at hx
    subst hx
    refine ⟨[u1, u2], ⟨u1, u2, rfl, h1.mono (fun b hb _ => ⟨hb.1, fun e => hb.2 (by have e9 : some g = some b := e; simpa using e9.symm)⟩) fun b h3 _ => hb b h3.2, h2.mono (fun b hb _ => ⟨hb.1, fun e => hb.2 (by have e9 : some g = some b := e; simpa using e9.symm)⟩) fun b h3 _ => hb b h3.2⟩, fun j hj => ?_⟩
    have hj2 : j < 2 := hj
    show ((vs.set (k * 2) _).set (k * 2 + 1) _)[k * 2 + j]? = _
    rcases (show j = 0 ∨ j = 1 by omega) with rfl | rfl
    · rw [List.getElem?_set_ne (by omega), Nat.add_zero, List.getElem?_set_self (by omega)]; rfl
    · rw [List.getElem?_set_self (by rw [List.length_set]; omega)]; rfl
  · rw [List.getElem?_set_ne hkm] at hx
    obtain ⟨cs, h4, h5⟩ := hv2 m x hx
    refine ⟨cs, tabE.mono h4 (fun _ h _ => h) fun b h3 _ => hb b fun e => h3.2 (by rw [e]; rfl), fun j hj => ?_⟩
    have hj2 : j < 2 := hj
    have := h5 j hj
    show ((vs.set (k * 2) _).set (k * 2 + 1) _)[m * 2 + j]? = _
    rw [List.getElem?_set_ne (by omega), List.getElem?_set_ne (by omega)]
    exact this
theorem own_intAt {base : Nat} {e : TypeId} {w w' : World} {v : Value} {xs : List Int} (h : Own intE (fun _ => False) base e w v xs) (hw : ∀ k, v.ownBlock = some k → w'.heap[k]? = w.heap[k]?) : Own intE (fun _ => False) base e w' v xs := by
  obtain ⟨vs, h1, h2⟩ := h
  exact ⟨vs, ownsRow_at h1 hw, fun k x hx => by
    obtain ⟨cs, h3, h4⟩ := h2 k x hx
    exact ⟨cs, h3, h4⟩⟩
theorem Own.beside {α : Type} {E : Elt α} {S T : Nat → Prop} {base base2 : Nat} {e : TypeId} {wm w w' : World} {v p p' : Value} {xs : List α} (h : Own E S base e w v xs) (hk : Kept base2 wm w w' p p') (hv : ∀ k, v.ownBlock = some k → p.ownBlock ≠ some k)
    (hS : ∀ b, S b → b < w.heap.size → p.ownBlock ≠ some b ∧ T b) : Own E T base e w' v xs := by
  obtain ⟨vs, h1, h2⟩ := h
  refine ⟨vs, ownsRow_at h1 fun k hk2 => hk.keep k (h1.lt k hk2).2 (hv k hk2), fun k x hx => ?_⟩
  obtain ⟨cs, h3, h4⟩ := h2 k x hx
  exact ⟨cs, E.mono h3 (fun b hb hl => ⟨(hS b hb.1 hl).2, hb.2⟩) fun b hb hl => hk.keep b hl (hS b hb.1 hl).1, h4⟩
/-- How many calls of the first ones are less. -/
def plcTo (s : List Tab) (c : List Cell) (m : Nat) : Nat := (s.take m).countP fun t => decide (cmpT t.call c < 0)
theorem plcTo_succ {s : List Tab} {c : List Cell} {m : Nat} (hm : m < s.length) : plcTo s c (m + 1) = plcTo s c m + if cmpT s[m].call c < 0 then 1 else 0 := by
  unfold plcTo
  rw [List.take_succ_eq_append_getElem hm, List.countP_append, List.countP_cons, List.countP_nil]
  simp only [decide_eq_true_eq, Nat.zero_add]
theorem plcTo_le (s : List Tab) (c : List Cell) (m : Nat) : plcTo s c m ≤ m := by
  unfold plcTo
  have := List.countP_le_length (p := fun t : Tab => decide (cmpT t.call c < 0)) (l := s.take m)
  rw [List.length_take] at this; omega
def plcL (s : List Tab) (k : Nat) : List Int := (List.range k).map fun i => (plcS s i : Int)
theorem plcL_len (s : List Tab) (k : Nat) : (plcL s k).length = k := by unfold plcL; simp
theorem plcL_succ (s : List Tab) (k : Nat) : plcL s (k + 1) = plcL s k ++ [(plcS s k : Int)] := by unfold plcL; rw [List.range_succ, List.map_append]; rfl

set_option maxHeartbeats 12800000 in
set_option maxRecDepth 100000 in
theorem SortR14_spec {S : Nat → Prop} {w : World} {v : Value} {s : List Tab} (hs : Seq tabE S w v s) (hg : GoodS s) :
    Calls Tryz.prog 17 #[v] w (fun e w' => ∃ o p, e = .returned (.tuple #[o, p]) ∧ Below w.heap.size w w' ∧ Seq tabE (Fr S w) w' o (sortTs s) ∧ Seq intE (Fr S w) w' p (placesS s)) := by
  have HS := Lib.hid hs.bnd
  obtain ⟨aa, ac, rfl⟩ := hs.shape
  have hlen := hg.len
  have HG := Lib.hid hg
  clear hs hg
  have hmk := run_make_two (P := Tryz.prog) 22 43 (.slice none 0 0) 48 Tryz.underlying22 infoTab rfl .i64 .i64 s.length (by omega) (by omega)
  have hO0 : Own tabE (fun b => (Value.slice (some ⟨w.heap.size + 1, 0, none⟩) 0 0).ownBlock ≠ some b ∧ ((S b ∧ b < w.heap.size) ∨ w.heap.size < b)) w.heap.size 43 (w.alloc (.cells (List.replicate (s.length * 2) (.slice none 0 0)).toArray 43)) (.slice (some ⟨w.heap.size, 0, none⟩) s.length s.length) (doneTo s 0) := own_tabs (Nat.le_refl _) (by omega)
  have HO0 := Lib.hid (hO0.move (Seq.way (w' := (w.alloc (.cells (List.replicate (s.length * 2) (.slice none 0 0)).toArray 43)).alloc (.cells #[] 3))))
  have HP0 := Lib.hid (show Own intE (fun _ => False) (w.heap.size + 1) 3 ((w.alloc (.cells (List.replicate (s.length * 2) (.slice none 0 0)).toArray 43)).alloc (.cells #[] 3)) (.slice (some ⟨w.heap.size + 1, 0, none⟩) 0 0) (plcL s 0) from Own.lit0 (by simp) (by simp) rfl)
  clear hO0
  go_enter Tryz.func17, Tryz.ntmps17
  go_wp2_with fail
  clear hmk
  go_loopw [5, 6] (fun p i wr => ∃ k : Nat, k ≤ s.length ∧ i = .int .i64 k ∧ Hid (∃ po pc, p = .slice po k pc) ∧ Hid (Own intE (fun _ => False) (w.heap.size + 1) 3 wr p (plcL s k)) ∧ Hid (Own tabE (fun b => p.ownBlock ≠ some b ∧ ((S b ∧ b < w.heap.size) ∨ w.heap.size < b)) w.heap.size 43 wr (.slice (some ⟨w.heap.size, 0, none⟩) s.length s.length) (doneTo s k)) ∧ Hid (Below w.heap.size w wr)) (fun _ i _ => s.length - (intOf i).toNat)
  case atStart => exact ⟨0, Nat.zero_le _, rfl, Lib.hid ⟨_, _, rfl⟩, HP0, HO0, Lib.hid Seq.way⟩
  case round =>
    obtain ⟨k, hk, rfl, hsh, hP, hO, hbr⟩ := hrel
    obtain ⟨po, pc, rfl⟩ := hsh.out
    have hpl := plcL_len s k
    clear hsh HP0 HO0
    by_cases hlt : k < s.length
    · have HSr := Lib.hid (HS.out.at hbr.out)
      have hz0 := hbr.out.size
      have hcal := Lib.hid (callAt_eq hlt)
      have htab := Lib.hid (tabS_eq hlt)
      have hplc := Lib.hid (plc_lt HG.out hlt)
      have hpS := Lib.hid (show plcTo s s[k].call s.length = plcS s k by unfold plcTo plcS; rw [List.take_length, hcal.out])
      have hansR := Lib.hid (fun a (h : a ∈ s[k].ans) => (HG.out.ans _ (List.getElem_mem hlt) a h).1)
      have hansN := Lib.hid (HG.out.nodup _ (List.getElem_mem hlt))
      have hanl := HG.out.anl _ (List.getElem_mem hlt)
      have hyr := Lib.hid (HG.out.right _ (List.getElem_mem hlt))
      obtain ⟨_, _, ee, -, -, -, -, x5⟩ := HSr.out
      simp only [Value.slice.injEq, true_and] at ee
      obtain ⟨rfl, rfl⟩ := ee
      obtain ⟨b, off, ha, hc, la, lc, rfl, hSb, lb, c0, c1, hH, hA⟩ := x5.tab hlt
      obtain ⟨y, hy⟩ : ∃ y, y = s[k] := ⟨_, rfl⟩
      rw [← hy] at hcal htab hpS hansR hansN hanl hyr c0 c1 hH hA
      have HH := Lib.hid hH
      have HA := Lib.hid hA
      have hkI : (k : Int) < (s.length : Int) := by omega
      have hk0 : (0 : Int) ≤ (k : Int) := by omega
      obtain ⟨wo, rfl⟩ : ∃ wo, wo = wr := ⟨_, rfl⟩
      clear hy hH hA x5 hcal
      go_wp2_with fail
      go_loopw [7, 8] (fun a j wz => ∃ m : Nat, m ≤ s.length ∧ j = .int .i64 m ∧ a = .int .i64 (plcTo s y.call m) ∧ Hid (Below wo.heap.size wo wz)) (fun _ j _ => s.length - (intOf j).toNat)
      case atStart => exact ⟨0, Nat.zero_le _, rfl, rfl, Lib.hid (by first | exact Below.refl _ _ | exact Seq.way)⟩
      case round =>
        obtain ⟨m, hm, rfl, rfl, hbz⟩ := hrel
        have e0 := (hbz.out.cell (p := ⟨b, off + k * 2, none⟩) lb).trans c0
        have e1 := (hbz.out.cell (p := ⟨b, off + k * 2 + 1, none⟩) lb).trans c1
        have lb1 := Nat.lt_of_lt_of_le lb hbz.out.size
        have hple := plcTo_le s y.call m
        by_cases hml : m < s.length
        · obtain ⟨_, _, ee, -, -, -, -, x6⟩ := HSr.out.at hbz.out
          simp only [Value.slice.injEq, true_and] at ee
          obtain ⟨rfl, rfl⟩ := ee
          obtain ⟨b2, off2, ha2, hc2, la2, lc2, e6, -, -, d0, -, hX, -⟩ := x6.tab hml
          simp only [Option.some.injEq, Addr.mk.injEq, and_true] at e6
          obtain ⟨rfl, rfl⟩ := e6
          have hxr := Lib.hid (HG.out.right _ (List.getElem_mem hml))
          have hst := Lib.hid (plcTo_succ (c := y.call) hml)
          obtain ⟨x, hx⟩ : ∃ x, x = s[m] := ⟨_, rfl⟩
          rw [← hx] at d0 hX hxr hst
          have HX := Lib.hid hX
          obtain ⟨z, hz⟩ : ∃ z, z = cmpT x.call y.call := ⟨_, rfl⟩
          have CC := Lib.hid (fun (W : World) (h : Below wr.heap.size wr W) => hz ▸ compare_right (w := W) hxr.out hyr.out (HX.out.at h) ((HH.out.at hbz.out).at h))
          rw [← hz] at hst
          obtain ⟨q, hq⟩ : ∃ q, q = plcTo s y.call m := ⟨_, rfl⟩
          rw [← hq] at hst hple ⊢
          have hmI : (m : Int) < (s.length : Int) := by omega
          have hm0 : (0 : Int) ≤ (m : Int) := by omega
          have hq1 : q ≤ 140737488355328 := by omega
          obtain ⟨wy, rfl⟩ : ∃ wy, wy = wr := ⟨_, rfl⟩
          clear hx hX x6 hz c0 c1 e1 hq
          go_upto_region 10 with fail
          have Hkeep := fun {Wk : World} (hW : Below wy.heap.size wy Wk) => Lib.hid (show Wk.cell? ⟨b, off + m * 2, none⟩ = some (.slice ha2 x.call.length hc2) ∧ Wk.cell? ⟨b, off + k * 2, none⟩ = some (.slice ha y.call.length hc) from ⟨(hW.cell (p := ⟨b, off + m * 2, none⟩) lb1).trans d0, (hW.cell (p := ⟨b, off + k * 2, none⟩) lb1).trans e0⟩)
          (try simp only [List.append_eq, List.cons_append, List.nil_append])
          refine wp_region_noPanic ?_
          refine wp_region_held_drew (S := fun w' => w'.cell? ⟨b, off + m * 2, none⟩ = some (.slice ha2 x.call.length hc2) ∧ w'.cell? ⟨b, off + k * 2, none⟩ = some (.slice ha y.call.length hc)) (by kernel_rfl) ?_ (fun hHeld => ?_)
          · exact (Hkeep (Below.drew (Below.refl _ _))).out
          refine wpAnyH_take1 (i := 0) (oi := _) (v := ?_) (by kernel_rfl) rfl (by kernel_rfl) (fun _ _ _ h => h) (Or.inl ⟨by rfl, ?_⟩) (by assumption) ?_
          rotate_left 1
          · intro w hSw; (try dsimp only at hSw); go_simp; (with_reducible rfl)
          (try simp only [Act.put, List.getElem_toArray, List.getElem_cons_zero, List.setIfInBounds_toArray, List.set_cons_zero, List.set_cons_succ])
          refine wpAnyH_take1 (i := 1) (oi := _) (v := ?_) (by kernel_rfl) rfl (by kernel_rfl) (fun _ _ _ h => h) (Or.inl ⟨by rfl, ?_⟩) (by assumption) ?_
          rotate_left 1
          · intro w hSw; (try dsimp only at hSw); go_simp; (with_reducible rfl)
          (try simp only [Act.put, List.getElem_toArray, List.getElem_cons_zero, List.getElem_cons_succ, List.setIfInBounds_toArray, List.set_cons_zero, List.set_cons_succ])
          refine wpAnyH_take1 (i := 2) (oi := _) (v := ?_) (by kernel_rfl) rfl (by kernel_rfl) (fun _ _ _ h => h) (Or.inl ⟨by rfl, ?_⟩) (by assumption) ?_
          rotate_left 1
          · intro w hSw; (try dsimp only at hSw); go_simp; (with_reducible rfl)
          (try simp only [Act.put, List.getElem_toArray, List.getElem_cons_zero, List.getElem_cons_succ, List.setIfInBounds_toArray, List.set_cons_zero, List.set_cons_succ])
          refine wpAnyH_take1 (i := 3) (oi := _) (v := ?_) (by kernel_rfl) rfl (by kernel_rfl) (fun _ _ _ h => h) (Or.inl ⟨by rfl, ?_⟩) (by assumption) ?_
          rotate_left 1
          · intro w hSw; (try dsimp only at hSw); go_simp; (with_reducible rfl)
          (try simp only [Act.put, List.getElem_toArray, List.getElem_cons_zero, List.getElem_cons_succ, List.setIfInBounds_toArray, List.set_cons_zero, List.set_cons_succ])
          refine wpAnyH_take1 (i := 4) (oi := _) (v := ?_) (by kernel_rfl) rfl (by kernel_rfl) (fun _ _ _ h => h) (Or.inl ⟨by rfl, ?_⟩) (by assumption) ?_
          rotate_left 1
          · intro w hSw; (try dsimp only at hSw); go_simp; (with_reducible rfl)
          (try simp only [Act.put, List.getElem_toArray, List.getElem_cons_zero, List.getElem_cons_succ, List.setIfInBounds_toArray, List.set_cons_zero, List.set_cons_succ])
          refine wpAnyH_take1 (i := 5) (oi := _) (v := ?_) (by kernel_rfl) rfl (by kernel_rfl) (fun _ _ _ h => h) (Or.inl ⟨by rfl, ?_⟩) (by assumption) ?_
          rotate_left 1
          · intro w hSw; (try dsimp only at hSw); go_simp; (with_reducible rfl)
          (try simp only [Act.put, List.getElem_toArray, List.getElem_cons_zero, List.getElem_cons_succ, List.setIfInBounds_toArray, List.set_cons_zero, List.set_cons_succ])
          refine wpAnyH_take1 (i := 6) (oi := _) (v := ?_) (by kernel_rfl) rfl (by kernel_rfl) (fun _ _ _ h => h) (Or.inl ⟨by rfl, ?_⟩) (by assumption) ?_
          rotate_left 1
          · intro w hSw; (try dsimp only at hSw); go_simp; (with_reducible rfl)
          (try simp only [Act.put, List.getElem_toArray, List.getElem_cons_zero, List.getElem_cons_succ, List.setIfInBounds_toArray, List.set_cons_zero, List.set_cons_succ])
          refine wpAnyH_take1 (i := 7) (oi := _) (v := ?_) (by kernel_rfl) rfl (by kernel_rfl) (fun _ _ _ h => h) (Or.inl ⟨by rfl, ?_⟩) (by assumption) ?_
          rotate_left 1
          · intro w hSw; (try dsimp only at hSw); go_simp; (with_reducible rfl)
          (try simp only [Act.put, List.getElem_toArray, List.getElem_cons_zero, List.getElem_cons_succ, List.setIfInBounds_toArray, List.set_cons_zero, List.set_cons_succ])
          refine wpAnyH_take1 (i := 8) (oi := _) (v := ?_) (by kernel_rfl) rfl (by kernel_rfl) (fun _ _ _ h => h) (Or.inl ⟨by rfl, ?_⟩) (by assumption) ?_
          rotate_left 1
          · intro w hSw; (try dsimp only at hSw); go_simp; (with_reducible rfl)
          (try simp only [Act.put, List.getElem_toArray, List.getElem_cons_zero, List.getElem_cons_succ, List.setIfInBounds_toArray, List.set_cons_zero, List.set_cons_succ])
          refine wpAnyH_take1 (i := 9) (oi := _) (v := ?_) (by kernel_rfl) rfl (by kernel_rfl) (fun _ _ _ h => h) (Or.inl ⟨by rfl, ?_⟩) (by assumption) ?_
          rotate_left 1
          · intro w hSw; (try dsimp only at hSw); go_simp; (with_reducible rfl)
          (try simp only [Act.put, List.getElem_toArray, List.getElem_cons_zero, List.getElem_cons_succ, List.setIfInBounds_toArray, List.set_cons_zero, List.set_cons_succ])
          refine wpAnyH_one (i := 10) (by kernel_rfl) rfl (by rfl) fun K hK => ?_
          go_simp
          refine ((CC.out _ Seq.way)).mono ?_
          rintro e y1 ⟨rfl, hy1⟩
          have HY1 := below_step hy1 (Seq.way : Below wy.heap.size wy _)
          have zy1 := HY1.size
          (try dsimp only)
          clear hHeld
          refine hK.out _ _ (Hkeep HY1).out fun hHeld => ?_
          clear hK K
          (try simp only [Act.put, List.getElem_toArray, List.getElem_cons_zero, List.getElem_cons_succ, List.setIfInBounds_toArray, List.set_cons_zero, List.set_cons_succ])
          refine wpAnyH_take1 (i := 11) (oi := _) (v := ?_) (by kernel_rfl) rfl (by kernel_rfl) (fun _ _ _ h => h) (Or.inl ⟨by rfl, ?_⟩) (by assumption) ?_
          rotate_left 1
          · intro w hSw; (try dsimp only at hSw); go_simp; (with_reducible rfl)
          (try simp only [Act.put, List.getElem_toArray, List.getElem_cons_zero, List.getElem_cons_succ, List.setIfInBounds_toArray, List.set_cons_zero, List.set_cons_succ])
          refine wpAnyH_done (by kernel_rfl) ?_ _
          refine NoPanic.normal ?_
          clear Hkeep zy1 e0 d0
          by_cases hz0 : z < 0
          · have hst2 := Lib.hid (hst.out.trans (by rw [if_pos hz0]))
            clear hst
            go_wp2_with fail
            go_roundw
            case rel => exact ⟨m + 1, hml, by go_num, by rw [hst2.out, Int.natCast_add]; go_num, Lib.hid (below_step HY1 hbz.out)⟩
            case measure => simp [intOf]; omega
          · have hst2 := Lib.hid (hst.out.trans (by rw [if_neg hz0]))
            clear hst
            go_wp2_with fail
            go_roundw
            case rel => exact ⟨m + 1, hml, by go_num, by rw [hst2.out, Nat.add_zero], Lib.hid (below_step HY1 hbz.out)⟩
            case measure => simp [intOf]; omega
        · obtain rfl : m = s.length := by omega
          have hmI : ¬ (s.length : Int) < (s.length : Int) := by omega
          rw [hpS.out]
          obtain ⟨p, hp⟩ : ∃ p, p = plcS s k := ⟨_, rfl⟩
          have hds := Lib.hid (show doneTo s (k + 1) = (doneTo s k).set p ⟨y.call, setL cmpT y.ans⟩ by rw [done_succ, htab.out, hp])
          have hps := Lib.hid (show plcL s (k + 1) = plcL s k ++ [(p : Int)] by rw [plcL_succ, hp])
          have hpl2 : p < s.length := hp ▸ hplc.out
          have hpl3 := Lib.hid (show p < (doneTo s k).length by rw [done_len]; exact hpl2)
          rw [← hp]
          have hpI : (p : Int) < (s.length : Int) := by omega
          have hp0 : (0 : Int) ≤ (p : Int) := by omega
          have hpt : ((p : Int)).toNat = p := Int.toNat_natCast p
          have hbz2 := Lib.hid (below_step hbz.out (Below.refl wo.heap.size wo))
          have HHz := Lib.hid (HH.out.at hbz.out)
          have HAz := Lib.hid (HA.out.at hbz.out)
          have hOz := Lib.hid (hO.out.move hbz.out)
          have hPz := Lib.hid (hP.out.move hbz.out)
          have Bz := Lib.hid (below_step hbz.out hbr.out)
          obtain ⟨wy, rfl⟩ : ∃ wy, wy = wr := ⟨_, rfl⟩
          clear hp c0 c1 htab hple
          go_upto_region 12 with fail
          have Hkeep := fun {Wk : World} (hW : Below wy.heap.size wy Wk) => Lib.hid (show Wk.cell? ⟨b, off + k * 2, none⟩ = some (.slice ha y.call.length hc) ∧ Wk.cell? ⟨b, off + k * 2 + 1, none⟩ = some (.slice la y.ans.length lc) from ⟨(hW.cell (p := ⟨b, off + k * 2, none⟩) lb1).trans e0, (hW.cell (p := ⟨b, off + k * 2 + 1, none⟩) lb1).trans e1⟩)
          (try simp only [List.append_eq, List.cons_append, List.nil_append])
          refine wp_region_noPanic ?_
          refine wp_region_last (S := fun w' => w'.cell? ⟨b, off + k * 2, none⟩ = some (.slice ha y.call.length hc) ∧ w'.cell? ⟨b, off + k * 2 + 1, none⟩ = some (.slice la y.ans.length lc)) (by kernel_rfl) ?_ rfl ?_ (fun hHeld => ?_)
          · kernel_rfl
          · exact (Hkeep (Below.drew (Below.refl _ _))).out
          dsimp only [List.dropLast]
          refine wpAnyH_take1 (i := 0) (oi := _) (v := ?_) (by kernel_rfl) rfl (by kernel_rfl) (fun _ _ _ h => h) (Or.inl ⟨by rfl, ?_⟩) (by assumption) ?_
          rotate_left 1
          · intro w hSw; (try dsimp only at hSw); go_simp; (with_reducible rfl)
          (try simp only [Act.put, List.getElem_toArray, List.getElem_cons_zero, List.setIfInBounds_toArray, List.set_cons_zero, List.set_cons_succ])
          refine wpAnyH_take1 (i := 1) (oi := _) (v := ?_) (by kernel_rfl) rfl (by kernel_rfl) (fun _ _ _ h => h) (Or.inl ⟨by rfl, ?_⟩) (by assumption) ?_
          rotate_left 1
          · intro w hSw; (try dsimp only at hSw); go_simp; (with_reducible rfl)
          (try simp only [Act.put, List.getElem_toArray, List.getElem_cons_zero, List.getElem_cons_succ, List.setIfInBounds_toArray, List.set_cons_zero, List.set_cons_succ])
          refine wpAnyH_take1 (i := 2) (oi := _) (v := ?_) (by kernel_rfl) rfl (by kernel_rfl) (fun _ _ _ h => h) (Or.inl ⟨by rfl, ?_⟩) (by assumption) ?_
          rotate_left 1
          · intro w hSw; (try dsimp only at hSw); go_simp; (with_reducible rfl)
          (try simp only [Act.put, List.getElem_toArray, List.getElem_cons_zero, List.getElem_cons_succ, List.setIfInBounds_toArray, List.set_cons_zero, List.set_cons_succ])
          refine wpAnyH_take1 (i := 3) (oi := _) (v := ?_) (by kernel_rfl) rfl (by kernel_rfl) (fun _ _ _ h => h) (Or.inl ⟨by rfl, ?_⟩) (by assumption) ?_
          rotate_left 1
          · intro w hSw; (try dsimp only at hSw); go_simp; (with_reducible rfl)
          (try simp only [Act.put, List.getElem_toArray, List.getElem_cons_zero, List.getElem_cons_succ, List.setIfInBounds_toArray, List.set_cons_zero, List.set_cons_succ])
          refine wpAnyH_take1 (i := 4) (oi := _) (v := ?_) (by kernel_rfl) rfl (by kernel_rfl) (fun _ _ _ h => h) (Or.inl ⟨by rfl, ?_⟩) (by assumption) ?_
          rotate_left 1
          · intro w hSw; (try dsimp only at hSw); go_simp; (with_reducible rfl)
          (try simp only [Act.put, List.getElem_toArray, List.getElem_cons_zero, List.getElem_cons_succ, List.setIfInBounds_toArray, List.set_cons_zero, List.set_cons_succ])
          refine wpAnyH_take1 (i := 5) (oi := _) (v := ?_) (by kernel_rfl) rfl (by kernel_rfl) (fun _ _ _ h => h) (Or.inl ⟨by rfl, ?_⟩) (by assumption) ?_
          rotate_left 1
          · intro w hSw; (try dsimp only at hSw); go_simp; (with_reducible rfl)
          (try simp only [Act.put, List.getElem_toArray, List.getElem_cons_zero, List.getElem_cons_succ, List.setIfInBounds_toArray, List.set_cons_zero, List.set_cons_succ])
          refine wpAnyH_take1 (i := 6) (oi := _) (v := ?_) (by kernel_rfl) rfl (by kernel_rfl) (fun _ _ _ h => h) (Or.inl ⟨by rfl, ?_⟩) (by assumption) ?_
          rotate_left 1
          · intro w hSw; (try dsimp only at hSw); go_simp; (with_reducible rfl)
          (try simp only [Act.put, List.getElem_toArray, List.getElem_cons_zero, List.getElem_cons_succ, List.setIfInBounds_toArray, List.set_cons_zero, List.set_cons_succ])
          refine wpAnyH_take1 (i := 7) (oi := _) (v := ?_) (by kernel_rfl) rfl (by kernel_rfl) (fun _ _ _ h => h) (Or.inl ⟨by rfl, ?_⟩) (by assumption) ?_
          rotate_left 1
          · intro w hSw; (try dsimp only at hSw); go_simp; (with_reducible rfl)
          (try simp only [Act.put, List.getElem_toArray, List.getElem_cons_zero, List.getElem_cons_succ, List.setIfInBounds_toArray, List.set_cons_zero, List.set_cons_succ])
          refine wpAnyH_take1 (i := 8) (oi := _) (v := ?_) (by kernel_rfl) rfl (by kernel_rfl) (fun _ _ _ h => h) (Or.inl ⟨by rfl, ?_⟩) (by assumption) ?_
          rotate_left 1
          · intro w hSw; (try dsimp only at hSw); go_simp; (with_reducible rfl)
          (try simp only [Act.put, List.getElem_toArray, List.getElem_cons_zero, List.getElem_cons_succ, List.setIfInBounds_toArray, List.set_cons_zero, List.set_cons_succ])
          refine wpAnyH_take1 (i := 9) (oi := _) (v := ?_) (by kernel_rfl) rfl (by kernel_rfl) (fun _ _ _ h => h) (Or.inl ⟨by rfl, ?_⟩) (by assumption) ?_
          rotate_left 1
          · intro w hSw; (try dsimp only at hSw); go_simp; (with_reducible rfl)
          (try simp only [Act.put, List.getElem_toArray, List.getElem_cons_zero, List.getElem_cons_succ, List.setIfInBounds_toArray, List.set_cons_zero, List.set_cons_succ])
          refine wpAnyH_take1 (i := 10) (oi := _) (v := ?_) (by kernel_rfl) rfl (by kernel_rfl) (fun _ _ _ h => h) (Or.inl ⟨by rfl, ?_⟩) (by assumption) ?_
          rotate_left 1
          · intro w hSw; (try dsimp only at hSw); go_simp; (with_reducible rfl)
          (try simp only [Act.put, List.getElem_toArray, List.getElem_cons_zero, List.getElem_cons_succ, List.setIfInBounds_toArray, List.set_cons_zero, List.set_cons_succ])
          refine wpAnyH_take1 (i := 11) (oi := _) (v := ?_) (by kernel_rfl) rfl (by kernel_rfl) (fun _ _ _ h => h) (Or.inl ⟨by rfl, ?_⟩) (by assumption) ?_
          rotate_left 1
          · intro w hSw; (try dsimp only at hSw); go_simp; (with_reducible rfl)
          (try simp only [Act.put, List.getElem_toArray, List.getElem_cons_zero, List.getElem_cons_succ, List.setIfInBounds_toArray, List.set_cons_zero, List.set_cons_succ])
          refine wpAnyH_one (i := 12) (by kernel_rfl) rfl (by rfl) fun K hK => ?_
          go_simp
          refine ((RiseR_spec (HAz.out.at Seq.way) hansR.out hansN.out (by omega))).mono ?_
          rintro e y1 ⟨v1, rfl, hy1, hs1⟩
          have HY1 := below_step hy1 (Seq.way : Below wy.heap.size wy _)
          have zy1 := HY1.size
          (try dsimp only)
          clear hHeld
          refine hK.out _ _ (Hkeep HY1).out fun hHeld => ?_
          clear hK K
          (try simp only [Act.put, List.getElem_toArray, List.getElem_cons_zero, List.getElem_cons_succ, List.setIfInBounds_toArray, List.set_cons_zero, List.set_cons_succ])
          have hOy := Lib.hid (hOz.out.move HY1)
          have HR1 := Lib.hid hs1
          obtain ⟨ra, rc, rfl⟩ := hs1.shape
          obtain ⟨u1, u2, o0, o1, f0, f1⟩ := hOy.out.tabCells hpl3.out
          clear hs1
          refine wpAnyH_take1 (i := 13) (oi := _) (v := ?_) (by kernel_rfl) rfl (by kernel_rfl) (fun _ _ _ h => h) (Or.inl ⟨by rfl, ?_⟩) (by assumption) ?_
          rotate_left 1
          · intro w hSw; (try dsimp only at hSw); go_simp; (with_reducible rfl)
          (try simp only [Act.put, List.getElem_toArray, List.getElem_cons_zero, List.getElem_cons_succ, List.setIfInBounds_toArray, List.set_cons_zero, List.set_cons_succ])
          refine wpAnyH_take1 (i := 14) (oi := _) (v := ?_) (by kernel_rfl) rfl (by kernel_rfl) (fun _ _ _ h => h) (Or.inl ⟨by rfl, ?_⟩) (by assumption) ?_
          rotate_left 1
          · intro w hSw; (try dsimp only at hSw); go_simp; (with_reducible rfl)
          (try simp only [Act.put, List.getElem_toArray, List.getElem_cons_zero, List.getElem_cons_succ, List.setIfInBounds_toArray, List.set_cons_zero, List.set_cons_succ])
          refine wpAnyH_done (by kernel_rfl) ?_ _
          refine (show Oper.wp _ _ _ _ _ _ from ?_)
          clear hHeld
          go_simp
          refine NoPanic.normal ?_
          clear Hkeep e0 e1
          have hpb := Lib.hid (show ∀ b, (Value.slice po k pc).ownBlock = some b → w.heap.size + 1 ≤ b ∧ b < wy.heap.size from fun b hb => by
            obtain ⟨vs, h1, -⟩ := hPz.out
            exact h1.lt b hb)
          have hwy := Lib.hid (show w.heap.size < wy.heap.size from by
            obtain ⟨_, _, h1, -⟩ := hOz.out.tabCells hpl3.out
            exact World.block_lt_of_cell? _ _ h1)
          obtain ⟨W2, hW2⟩ : ∃ W2, W2 = (y1.setCell ⟨w.heap.size, p * 2, none⟩ (.slice ha y.call.length hc)).setCell ⟨w.heap.size, p * 2 + 1, none⟩ (.slice ra (setL cmpT y.ans).length rc) := ⟨_, rfl⟩
          have hb2 : ∀ b, b ≠ w.heap.size → W2.heap[b]? = y1.heap[b]? := fun b hb => by rw [hW2]; exact (Below.heap_setCell _ _ _ _ hb).trans (Below.heap_setCell _ _ _ _ hb)
          have hsz2 : W2.heap.size = y1.heap.size := by rw [hW2]; simp [World.setCell]
          have HO2 := Lib.hid (show Own tabE (fun b => (Value.slice po k pc).ownBlock ≠ some b ∧ ((S b ∧ b < w.heap.size) ∨ w.heap.size < b)) w.heap.size 43 W2 (.slice (some ⟨w.heap.size, 0, none⟩) s.length s.length) (doneTo s (k + 1)) by
            rw [hds.out, hW2]
            refine hOy.out.setTab (by rw [done_len]) hpl3.out ((HHz.out.at HY1).mono (fun b hb _ => ⟨⟨fun e => ?_, .inl hb⟩, ?_⟩) fun _ _ _ => rfl) (HR1.out.mono (fun b hb _ => ⟨⟨fun e => ?_, ?_⟩, ?_⟩) fun _ _ _ => rfl)
            · have := hpb.out b e; have := hb.2; omega
            · have := hb.2; omega
            · have h1 := hpb.out b e
              rcases hb with hb | hb
              · have := hb.2; omega
              · simp at hb; omega
            · rcases hb with hb | hb
              · exact .inl hb
              · have := hwy.out; simp at hb; exact .inr (by omega)
            · rcases hb with hb | hb
              · have := hb.2; omega
              · have := hwy.out; simp at hb; omega)
          have HP2 := Lib.hid (own_intAt (hPz.out.move HY1) (w' := W2) fun q hq => hb2 q (by have := hpb.out q hq; omega))
          have B2 := Lib.hid (show Below w.heap.size w W2 by rw [hW2]; exact ((below_step HY1 Bz.out).setCell (Nat.le_refl _) _).setCell (Nat.le_refl _) _)
          have hsz : w.heap.size + 1 ≤ W2.heap.size := by have := hwy.out; omega
          rw [← hW2]
          clear hW2 hb2 hsz2 hOy o0 o1 f0 f1 HY1 zy1 hO hP hOz hPz
          go_wp2_with (at_builtin; refine wpList_app_int (wm := W2) rfl _ _ 33 rfl Tryz.underlying33 infoInt rfl HP2.out rfl Seq.way (y := (p : Int)) ⟨by omega, by omega⟩ (by go_simp) (by omega) hsz ?_)
          intro ao2 cap2 w3 hown3 hk3
          have H3 := Lib.hid hown3
          have HO3 := Lib.hid ((HO2.out.move Seq.way).beside (T := fun b => (Value.slice ao2 (k + 1) cap2).ownBlock ≠ some b ∧ ((S b ∧ b < w.heap.size) ∨ w.heap.size < b)) hk3 (fun q hq e => by
            have h1 := hpb.out q e
            have e2 : some w.heap.size = some q := hq
            simp only [Option.some.injEq] at e2
            omega) fun b hb hl => ⟨hb.1, fun e => by
              rcases hk3.blk with h1 | h1
              · exact hb.1 (h1 ▸ e)
              · rw [h1] at e
                simp only [Option.some.injEq] at e
                omega, hb.2⟩)
          have B3 := Lib.hid (show Below w.heap.size w w3 from B2.out.trans (((Seq.way : Below W2.heap.size W2 (W2.alloc (.cells #[.int .i64 (p : Int)] 3))).mono (by omega)).trans (hk3.below.mono (by omega))))
          clear hown3 hk3
          go_wp2_with fail
          go_roundw
          case rel => exact ⟨k + 1, hlt, by go_num, Lib.hid ⟨_, _, rfl⟩, by rw [hps.out]; exact H3, HO3, B3⟩
          case measure => simp [intOf]; omega
    · obtain rfl : k = s.length := by omega
      have hkI : ¬ (s.length : Int) < (s.length : Int) := by omega
      go_wp2_with fail
      go_ret2
      refine ⟨_, _, rfl, hbr.out, ?_, ?_⟩
      · have h1 := hO.out.seq (T := Fr S w) (by rw [done_len]; omega) fun b _ h => h.elim (fun h => h.2.elim (fun h => .inl h.1) fun h => .inr (by omega)) .inr
        exact h1
      · have h1 := hP.out.seq (T := Fr S w) (by omega) fun b _ h => .inr (h.elim False.elim fun h => by omega)
        exact h1
end Go.Proofs.YtckkjjiaecnciaaGreat
