/-
  Layer 16, the document: the program of instances (From).
-/
import Derived.Test.YtaedgpcmkagpeaaGreatGsJ
namespace Go.Proofs.YtaedgpcmkagpeaaGreat
open Go Go.RowKit

/-- As the document says it, with its own order of terms. -/
def fromR (l : List Ins) : Prog := ⟨setL cmpR (allT l), setL cmpU (l.map (ruleT (setL cmpR (allT l))))⟩
theorem allT_snoc {l : List Ins} {k : Nat} (hk : k < l.length) : allT (l.take (k + 1)) = allT (l.take k) ++ ((l[k].head :: l[k].pos) ++ l[k].neg) := by
  unfold allT
  rw [List.take_succ_eq_append_getElem hk, List.flatMap_append]
  simp [termsI]
theorem setL_sub {α : Type} {c : α → α → Int} {x : α} : ∀ {l : List α} {s : List α}, x ∈ l.foldl (fun s x => insC c x s) s → x ∈ s ∨ x ∈ l
  | [], s, h => .inl h
  | a :: l, s, h => by
    rcases setL_sub (l := l) h with h | h
    · have key : ∀ {s : List α}, x ∈ insC c a s → x = a ∨ x ∈ s := by
        intro s
        induction s with
        | nil => intro h; simp [insC] at h; exact .inl h
        | cons y s ih =>
          intro h
          unfold insC at h
          split at h
          · rcases List.mem_cons.1 h with h | h
            · exact .inr (by simp [h])
            · exact (ih h).imp id fun h => List.mem_cons_of_mem _ h
          · split at h
            · exact .inr h
            · rcases List.mem_cons.1 h with h | h
              · exact .inl h
              · exact .inr h
      rcases key h with h | h
      · exact .inr (by simp [h])
      · exact .inl h
    · exact .inr (List.mem_cons_of_mem _ h)
theorem setL_congr {α : Type} {c d : α → α → Int} {l : List α} (h : ∀ x ∈ l, ∀ y ∈ l, c x y = d x y) : setL c l = setL d l := by
  have key : ∀ (m s : List α), (∀ x ∈ m, x ∈ l) → (∀ x ∈ s, x ∈ l) → m.foldl (fun s x => insC c x s) s = m.foldl (fun s x => insC d x s) s := by
    intro m
    induction m with
    | nil => intro s _ _; rfl
    | cons a m ih =>
      intro s hm hs
      rw [List.foldl_cons, List.foldl_cons]
      have e : insC c a s = insC d a s := insC_congr fun y hy => by
        rw [h y (hs y hy) a (hm a List.mem_cons_self)]; exact ⟨Iff.rfl, Iff.rfl⟩
      rw [e]
      refine ih _ (fun x hx => hm x (List.mem_cons_of_mem _ hx)) fun x hx => ?_
      rcases setL_sub (l := [a]) (s := s) (c := d) hx with h | h
      · exact hs x h
      · simp at h; subst h; exact hm _ List.mem_cons_self
  exact key l [] (fun _ h => h) fun _ h => by simp at h
theorem fromR_eq {l : List Ins} (h : ∀ i ∈ l, ∀ t ∈ termsI i, atomG t = true) : fromR l = fromT l := by
  have e : setL cmpR (allT l) = setL cmpT (allT l) := setL_congr fun x hx y hy => by
    obtain ⟨i, hi, h1⟩ := mem_allT.1 hx
    obtain ⟨j, hj, h2⟩ := mem_allT.1 hy
    exact atomG_cmp (h i hi x h1) (h j hj y h2)
  unfold fromR fromT
  rw [e]
theorem setL_lenle {α : Type} (c : α → α → Int) (l : List α) {n : Nat} (h : l.length ≤ n) : (setL c l).length ≤ n := Nat.le_trans (setL_le l) h
theorem allT_len {l : List Ins} : ∀ k, (allT (l.take k)).length ≤ (allT l).length := fun k => by
  conv => rhs; rw [← List.take_append_drop k l]
  unfold allT
  rw [List.flatMap_append, List.length_append]; omega
theorem allT_part {l : List Ins} {k : Nat} (hk : k < l.length) : (allT (l.take k)).length + (1 + l[k].pos.length + l[k].neg.length) ≤ (allT l).length := by
  have h1 := allT_len (l := l) (k + 1)
  rw [allT_snoc hk] at h1
  simp only [List.length_append, List.length_cons] at h1
  omega
theorem smU_rule {A : List (List Cell)} (hA : A.length ≤ 1000000000) (i : Ins) : SmU (ruleT A i) := by
  have key : ∀ m : List (List Cell), SmI (placesT A m) := fun m x hx => by
    obtain ⟨t, -, rfl⟩ := mem_places.1 hx
    have := posT_rng A t
    omega
  have := posT_rng A i.head
  exact ⟨⟨this.1, by show posT A i.head ≤ 1000000000; omega⟩, key _, key _⟩
set_option maxHeartbeats 25600000 in
set_option maxRecDepth 100000 in
theorem FromR_spec {S : Nat → Prop} {w : World} {v : Value} {l : List Ins} (hl : Seq instE S w v l) (hn : (allT l).length ≤ 100000) (hll : l.length ≤ 100000) :
    Calls Tryz.prog 16 #[v] w (Ret (fun o w' => ProgV (Fr S w) w' o (fromR l)) w) := by
  have HL := Lib.hid hl.bnd
  have Hn := Lib.hid hn
  obtain ⟨la, lc, rfl⟩ := hl.shape
  clear hl hn
  obtain ⟨W, hW⟩ : ∃ W, W = (w.alloc (.cells #[.slice none 0 0, .slice none 0 0] 26)).alloc (.cells #[.slice none 0 0, .slice none 0 0] 26) := ⟨_, rfl⟩
  have HB := Lib.hid (show Below w.heap.size w W by rw [hW]; exact Seq.way)
  have hzW1 : W.heap.size ≤ w.heap.size + 2 := by rw [hW]; simp
  have hzW2 : w.heap.size + 2 ≤ W.heap.size := by rw [hW]; simp
  have HZ := Lib.hid (show Row 26 W w.heap.size [.slice none 0 0, .slice none 0 0] by rw [hW]; exact (Row.new w [_, _] _ rfl).alloc _)
  have HO0 := Lib.hid (show Row 26 W (w.heap.size + 1) [.slice none 0 0, .slice none 0 0] by rw [hW]; exact Row.new _ [_, _] _ (by simp))
  have HW := Lib.hid hW
  clear hW
  go_enter Tryz.func16, Tryz.ntmps16
  go_upto_region 2 with fail
  rw [← HW.out]
  go_wp2_with fail
  go_loopw [4] (fun i wr => ∃ (k : Nat) (va : Value), i = .int .i64 k ∧ k ≤ l.length ∧ Hid (Row 26 wr (w.heap.size + 1) [va, .slice none 0 0]) ∧ Hid (Seq (seqE cellE) (fun b => (S b ∧ b < w.heap.size) ∨ W.heap.size ≤ b) wr va (setL cmpR (allT (l.take k)))) ∧ Hid (W.grownBy wr (some (w.heap.size + 1)))) (fun i _ => l.length - (intOf i).toNat)
  case atStart => exact ⟨0, _, rfl, Nat.zero_le _, HO0, Lib.hid (Seq.nil _ _ _), Lib.hid (gr_refl _ _)⟩
  case round =>
    obtain ⟨k, va, rfl, hk, hrow, hO, hgr⟩ := hrel
    have hzr := hgr.out.size
    have hbw := Lib.hid (HB.out.trans (gr_below hgr.out (B := w.heap.size) (by omega) (by omega)))
    have HZr := Lib.hid (HZ.out.at (hgr.out.block _ HZ.out.lt (by simp <;> omega)))
    by_cases hlt : k < l.length
    · have hpt := Lib.hid (allT_part hlt)
      have hsn := Lib.hid (allT_snoc hlt)
      obtain ⟨_, _, ee, -, -, -, -, x5⟩ := (HL.out.at hbw.out)
      simp only [Value.slice.injEq, true_and] at ee
      obtain ⟨rfl, rfl⟩ := ee
      obtain ⟨b, off, ha, hc, pa, pc, na, nc, rfl, ⟨-, hbW⟩, hb, c0, c1, c2, hX, hP, hN⟩ := x5.ins hlt
      have HX := Lib.hid hX
      have HPs := Lib.hid hP
      have HNs := Lib.hid hN
      have hpl : l[k].pos.length ≤ 140737488355328 := by obtain ⟨_, _, _, _, _, h, _⟩ := hP; exact h
      have hnl : l[k].neg.length ≤ 140737488355328 := by obtain ⟨_, _, _, _, _, h, _⟩ := hN; exact h
      obtain ⟨i, hi⟩ : ∃ i, i = l[k] := ⟨_, rfl⟩
      rw [← hi] at c0 c1 c2 HX HPs HNs hpt hsn hpl hnl
      obtain ⟨M, hM⟩ : ∃ M, M = allT (l.take k) := ⟨_, rfl⟩
      rw [← hM] at hO hpt hsn
      have hQl := setL_lenle cmpR M (n := 100000) (by have := hpt.out; have := Hn.out; omega)
      obtain ⟨oa, oc, rfl⟩ := hO.out.shape
      have o0 := hrow.out.cell (j := 0) (by simp)
      simp only [List.getElem_cons_zero] at o0
      have hkl : (k : Int) < (l.length : Int) := by omega
      have hk0 : (0 : Int) ≤ (k : Int) := by omega
      obtain ⟨wz, rfl⟩ : ∃ wz, wz = wr := ⟨_, rfl⟩
      have lb : b < wz.heap.size := hb
      have lO := hrow.out.lt
      have hie := Lib.hid hi
      clear hX hP hN x5 hi hM
      go_upto_region 5 with fail
      have Hkeep := fun {Wk : World} (hW : Below wz.heap.size wz Wk) => Lib.hid (show Wk.cell? ⟨w.heap.size + 1, 0, none⟩ = some (.slice oa (setL cmpR M).length oc) ∧ Wk.cell? ⟨b, off + k * 3, none⟩ = some (.slice ha i.head.length hc) from ⟨(hW.cell (p := ⟨w.heap.size + 1, 0, none⟩) lO).trans o0, (hW.cell (p := ⟨b, off + k * 3, none⟩) lb).trans c0⟩)
      (try simp only [List.append_eq, List.cons_append, List.nil_append])
      refine wp_region_noPanic ?_
      refine wp_region_last (S := fun w' => w'.cell? ⟨w.heap.size + 1, 0, none⟩ = some (.slice oa (setL cmpR M).length oc) ∧ w'.cell? ⟨b, off + k * 3, none⟩ = some (.slice ha i.head.length hc)) (by kernel_rfl) ?_ rfl ?_ (fun hHeld => ?_)
      · kernel_rfl
      · exact (Hkeep (Below.drew (Below.refl _ _))).out
      dsimp only [List.dropLast]
      refine wpAnyH_take1 (i := 0) (oi := _) (v := ?_) (by kernel_rfl) rfl (by kernel_rfl) (fun _ _ _ h => h) (Or.inl ⟨by rfl, ?_⟩) (by assumption) ?_
      rotate_left 1
      · intro w hSw; (try dsimp only at hSw); go_simp; (with_reducible rfl)
      (try simp only [Act.put, List.getElem_toArray, List.getElem_cons_zero, List.setIfInBounds_toArray, List.set_cons_zero, List.set_cons_succ])
      refine wpAnyH_take1 (i := 1) (oi := _) (v := ?_) (by kernel_rfl) rfl (by kernel_rfl) (fun _ _ _ h => h) (Or.inl ⟨by rfl, ?_⟩) (by assumption) ?_
      rotate_left 1
      · intro w hSw; (try dsimp only at hSw); go_simp; (with_reducible rfl)
      (try simp only [Act.put, List.getElem_toArray, List.getElem_cons_zero, List.getElem_cons_succ, List.setIfInBounds_toArray, List.set_cons_zero, List.set_cons_succ])
      refine wpAnyH_take1 (i := 2) (oi := _) (v := ?_) (by kernel_rfl) rfl (by kernel_rfl) (fun _ _ _ h => h) (Or.inl ⟨by rfl, ?_⟩) (by assumption) ?_
      rotate_left 1
      · intro w hSw; (try dsimp only at hSw); go_simp; (with_reducible rfl)
      (try simp only [Act.put, List.getElem_toArray, List.getElem_cons_zero, List.getElem_cons_succ, List.setIfInBounds_toArray, List.set_cons_zero, List.set_cons_succ])
      refine wpAnyH_take1 (i := 3) (oi := _) (v := ?_) (by kernel_rfl) rfl (by kernel_rfl) (fun _ _ _ h => h) (Or.inl ⟨by rfl, ?_⟩) (by assumption) ?_
      rotate_left 1
      · intro w hSw; (try dsimp only at hSw); go_simp; (with_reducible rfl)
      (try simp only [Act.put, List.getElem_toArray, List.getElem_cons_zero, List.getElem_cons_succ, List.setIfInBounds_toArray, List.set_cons_zero, List.set_cons_succ])
      refine wpAnyH_take1 (i := 4) (oi := _) (v := ?_) (by kernel_rfl) rfl (by kernel_rfl) (fun _ _ _ h => h) (Or.inl ⟨by rfl, ?_⟩) (by assumption) ?_
      rotate_left 1
      · intro w hSw; (try dsimp only at hSw); go_simp; (with_reducible rfl)
      (try simp only [Act.put, List.getElem_toArray, List.getElem_cons_zero, List.getElem_cons_succ, List.setIfInBounds_toArray, List.set_cons_zero, List.set_cons_succ])
      refine wpAnyH_take1 (i := 5) (oi := _) (v := ?_) (by kernel_rfl) rfl (by kernel_rfl) (fun _ _ _ h => h) (Or.inl ⟨by rfl, ?_⟩) (by assumption) ?_
      rotate_left 1
      · intro w hSw; (try dsimp only at hSw); go_simp; (with_reducible rfl)
      (try simp only [Act.put, List.getElem_toArray, List.getElem_cons_zero, List.getElem_cons_succ, List.setIfInBounds_toArray, List.set_cons_zero, List.set_cons_succ])
      refine wpAnyH_take1 (i := 6) (oi := _) (v := ?_) (by kernel_rfl) rfl (by kernel_rfl) (fun _ _ _ h => h) (Or.inl ⟨by rfl, ?_⟩) (by assumption) ?_
      rotate_left 1
      · intro w hSw; (try dsimp only at hSw); go_simp; (with_reducible rfl)
      (try simp only [Act.put, List.getElem_toArray, List.getElem_cons_zero, List.getElem_cons_succ, List.setIfInBounds_toArray, List.set_cons_zero, List.set_cons_succ])
      refine wpAnyH_one (i := 7) (by kernel_rfl) rfl (by rfl) fun K hK => ?_
      go_simp
      refine ((PutT_spec (hO.out.bnd.at Seq.way) (HX.out.at Seq.way) (by omega))).mono ?_
      rintro e y1 ⟨_, rfl, hy1, hz1⟩
      have HY1 := below_step hy1 (Seq.way : Below wz.heap.size wz _)
      have zy1 := HY1.size
      (try dsimp only)
      clear hHeld
      refine hK.out _ _ (Hkeep HY1).out fun hHeld => ?_
      clear hK K
      (try simp only [Act.put, List.getElem_toArray, List.getElem_cons_zero, List.getElem_cons_succ, List.setIfInBounds_toArray, List.set_cons_zero, List.set_cons_succ])
      have HZ1 := Lib.hid (hz1.mono (T := fun b => (S b ∧ b < w.heap.size) ∨ W.heap.size ≤ b) (fun b h _ => by
        have h8 : ((((S b ∧ b < w.heap.size) ∨ W.heap.size ≤ b) ∧ b < wz.heap.size) ∨ (S b ∧ b < w.heap.size)) ∨ wz.drew.heap.size ≤ b := h
        rcases h8 with (h8 | h8) | h8
        · exact h8.1
        · exact .inl h8
        · simp at h8; exact .inr (by omega)) fun _ _ _ => rfl)
      obtain ⟨za, zc, rfl⟩ := hz1.shape
      have row5 := Lib.hid (rowTo hrow.out HY1)
      have fz5 := row5.out.frozen 0
      have oc5 := row5.out.cell (j := 0) (by simp)
      simp only [List.getElem_cons_zero] at oc5
      clear hz1
      refine wpAnyH_take1 (i := 8) (oi := _) (v := ?_) (by kernel_rfl) rfl (by kernel_rfl) (fun _ _ _ h => h) (Or.inl ⟨by rfl, ?_⟩) (by assumption) ?_
      rotate_left 1
      · intro w hSw; (try dsimp only at hSw); go_simp; (with_reducible rfl)
      (try simp only [Act.put, List.getElem_toArray, List.getElem_cons_zero, List.getElem_cons_succ, List.setIfInBounds_toArray, List.set_cons_zero, List.set_cons_succ])
      refine wpAnyH_done (by kernel_rfl) ?_ _
      refine (show Oper.wp _ _ _ _ _ _ from ?_)
      clear hHeld
      go_simp
      refine NoPanic.normal ?_
      have hN0 := Lib.hid (show Seq (seqE cellE) (fun b => (S b ∧ b < w.heap.size) ∨ W.heap.size ≤ b) (y1.setCell ⟨w.heap.size + 1, 0, none⟩ (.slice za (insC cmpR i.head (setL cmpR M)).length zc)) (.slice za (insC cmpR i.head (setL cmpR M)).length zc) (setL cmpR (M ++ [i.head] ++ i.pos.take 0)) by
        rw [List.take_zero, List.append_nil, setL_snoc]
        exact gr_seq HZ1.out (gr_set _ _ _ _) fun b h e => by simp at e; have : (S b ∧ b < w.heap.size) ∨ W.heap.size ≤ b := h; omega)
      have hR0 := Lib.hid (show Row 26 (y1.setCell ⟨w.heap.size + 1, 0, none⟩ (.slice za (insC cmpR i.head (setL cmpR M)).length zc)) (w.heap.size + 1) [.slice za (insC cmpR i.head (setL cmpR M)).length zc, .slice none 0 0] from row5.out.set 0 _)
      have hG0 := Lib.hid (show W.grownBy (y1.setCell ⟨w.heap.size + 1, 0, none⟩ (.slice za (insC cmpR i.head (setL cmpR M)).length zc)) (some (w.heap.size + 1)) from gr_trans (gr_of hgr.out (HY1.mono hzr)) (gr_set _ _ _ _))
      obtain ⟨wx, hwx⟩ : ∃ wx, wx = y1.setCell ⟨w.heap.size + 1, 0, none⟩ (.slice za (insC cmpR i.head (setL cmpR M)).length zc) := ⟨_, rfl⟩
      rw [← hwx] at hN0 hR0 hG0 ⊢
      clear hwx HZ1 row5 fz5 oc5 o0 hO hrow HY1 zy1 hzr hbw HZr lb lO c0 c1 c2 hb hgr
      go_wp2_with fail
      go_loopw [5] (fun i' wr => ∃ (j : Nat) (va : Value), i' = .int .i64 j ∧ j ≤ i.pos.length ∧ Hid (Row 26 wr (w.heap.size + 1) [va, .slice none 0 0]) ∧ Hid (Seq (seqE cellE) (fun b => (S b ∧ b < w.heap.size) ∨ W.heap.size ≤ b) wr va (setL cmpR (M ++ [i.head] ++ i.pos.take j))) ∧ Hid (W.grownBy wr (some (w.heap.size + 1)))) (fun i' _ => i.pos.length - (intOf i').toNat)
      case atStart => exact ⟨0, _, rfl, Nat.zero_le _, hR0, hN0, hG0⟩
      case round =>
        obtain ⟨j, va, rfl, hj, hrow, hO, hgr⟩ := hrel
        have hzr := hgr.out.size
        have hbw := Lib.hid (HB.out.trans (gr_below hgr.out (B := w.heap.size) (by omega) (by omega)))
        obtain ⟨_, _, ee, -, -, -, -, x5⟩ := (HL.out.at hbw.out)
        simp only [Value.slice.injEq, true_and] at ee
        obtain ⟨ee, rfl⟩ := ee
        obtain ⟨b', off', ha', hc', pa', pc', na', nc', e2, ⟨-, hbW'⟩, hb, c0, c1, c2, hX, hP, hN⟩ := x5.ins hlt
        rw [← ee] at e2
        simp only [Option.some.injEq, Addr.mk.injEq, and_true] at e2
        obtain ⟨rfl, rfl⟩ := e2
        rw [← hie.out] at c0 c1 c2 hX hP hN
        have HPj := Lib.hid (show Seq (seqE cellE) _ wr (.slice pa' i.pos.length pc') i.pos from hP)
        clear hX hP hN x5 ee c0 c2
        by_cases hjl : j < i.pos.length
        · obtain ⟨_, _, ee, -, -, -, -, y5⟩ := HPj.out
          simp only [Value.slice.injEq, true_and] at ee
          obtain ⟨rfl, rfl⟩ := ee
          obtain ⟨b3, off3, p3, n3, rfl, ⟨-, hbW3⟩, hb3, hc3, hX3⟩ := y5.seq hjl
          have HX3 := Lib.hid hX3
          have hst := Lib.hid (show setL cmpR (M ++ [i.head] ++ i.pos.take (j + 1)) = insC cmpR i.pos[j] (setL cmpR (M ++ [i.head] ++ i.pos.take j)) by rw [List.take_succ_eq_append_getElem hjl, ← List.append_assoc]; exact setL_snoc _ _)
          have hQl := setL_lenle cmpR (M ++ [i.head] ++ i.pos.take j) (n := 100000) (by simp only [List.length_append, List.length_cons, List.length_nil, List.length_take]; have := hpt.out; have := Hn.out; omega)
          obtain ⟨x, hx⟩ : ∃ x, x = i.pos[j] := ⟨_, rfl⟩
          rw [← hx] at hc3 HX3 hst
          obtain ⟨Q, hQ⟩ : ∃ Q, Q = setL cmpR (M ++ [i.head] ++ i.pos.take j) := ⟨_, rfl⟩
          rw [← hQ] at hO hst hQl
          obtain ⟨oa, oc, rfl⟩ := hO.out.shape
          have o0 := hrow.out.cell (j := 0) (by simp)
          simp only [List.getElem_cons_zero] at o0
          have lO := hrow.out.lt
          have hjI : (j : Int) < (i.pos.length : Int) := by omega
          have hj0 : (0 : Int) ≤ (j : Int) := by omega
          clear hX3 y5 hx hQ
          go_upto_region 9 with fail
          have Hkeep := fun {Wk : World} (hW : Below wr.heap.size wr Wk) => Lib.hid (show Wk.cell? ⟨w.heap.size + 1, 0, none⟩ = some (.slice oa Q.length oc) ∧ Wk.cell? ⟨b, off + k * 3 + 1, none⟩ = some (.slice (some ⟨b3, off3, none⟩) i.pos.length pc') ∧ Wk.cell? ⟨b3, off3 + j, none⟩ = some (.slice p3 x.length n3) from ⟨(hW.cell (p := ⟨w.heap.size + 1, 0, none⟩) lO).trans o0, (hW.cell (p := ⟨b, off + k * 3 + 1, none⟩) hb).trans c1, (hW.cell (p := ⟨b3, off3 + j, none⟩) hb3).trans hc3⟩)
          (try simp only [List.append_eq, List.cons_append, List.nil_append])
          refine wp_region_noPanic ?_
          refine wp_region_last (S := fun w' => w'.cell? ⟨w.heap.size + 1, 0, none⟩ = some (.slice oa Q.length oc) ∧ w'.cell? ⟨b, off + k * 3 + 1, none⟩ = some (.slice (some ⟨b3, off3, none⟩) i.pos.length pc') ∧ w'.cell? ⟨b3, off3 + j, none⟩ = some (.slice p3 x.length n3)) (by kernel_rfl) ?_ rfl ?_ (fun hHeld => ?_)
          · kernel_rfl
          · exact (Hkeep (Below.drew (Below.refl _ _))).out
          dsimp only [List.dropLast]
          refine wpAnyH_take1 (i := 0) (oi := _) (v := ?_) (by kernel_rfl) rfl (by kernel_rfl) (fun _ _ _ h => h) (Or.inl ⟨by rfl, ?_⟩) (by assumption) ?_
          rotate_left 1
          · intro w hSw; (try dsimp only at hSw); go_simp; (with_reducible rfl)
          (try simp only [Act.put, List.getElem_toArray, List.getElem_cons_zero, List.setIfInBounds_toArray, List.set_cons_zero, List.set_cons_succ])
          refine wpAnyH_take1 (i := 1) (oi := _) (v := ?_) (by kernel_rfl) rfl (by kernel_rfl) (fun _ _ _ h => h) (Or.inl ⟨by rfl, ?_⟩) (by assumption) ?_
          rotate_left 1
          · intro w hSw; (try dsimp only at hSw); go_simp; (with_reducible rfl)
          (try simp only [Act.put, List.getElem_toArray, List.getElem_cons_zero, List.getElem_cons_succ, List.setIfInBounds_toArray, List.set_cons_zero, List.set_cons_succ])
          refine wpAnyH_take1 (i := 2) (oi := _) (v := ?_) (by kernel_rfl) rfl (by kernel_rfl) (fun _ _ _ h => h) (Or.inl ⟨by rfl, ?_⟩) (by assumption) ?_
          rotate_left 1
          · intro w hSw; (try dsimp only at hSw); go_simp; (with_reducible rfl)
          (try simp only [Act.put, List.getElem_toArray, List.getElem_cons_zero, List.getElem_cons_succ, List.setIfInBounds_toArray, List.set_cons_zero, List.set_cons_succ])
          refine wpAnyH_take1 (i := 3) (oi := _) (v := ?_) (by kernel_rfl) rfl (by kernel_rfl) (fun _ _ _ h => h) (Or.inl ⟨by rfl, ?_⟩) (by assumption) ?_
          rotate_left 1
          · intro w hSw; (try dsimp only at hSw); go_simp; (with_reducible rfl)
          (try simp only [Act.put, List.getElem_toArray, List.getElem_cons_zero, List.getElem_cons_succ, List.setIfInBounds_toArray, List.set_cons_zero, List.set_cons_succ])
          refine wpAnyH_take1 (i := 4) (oi := _) (v := ?_) (by kernel_rfl) rfl (by kernel_rfl) (fun _ _ _ h => h) (Or.inl ⟨by rfl, ?_⟩) (by assumption) ?_
          rotate_left 1
          · intro w hSw; (try dsimp only at hSw); go_simp; (with_reducible rfl)
          (try simp only [Act.put, List.getElem_toArray, List.getElem_cons_zero, List.getElem_cons_succ, List.setIfInBounds_toArray, List.set_cons_zero, List.set_cons_succ])
          refine wpAnyH_take1 (i := 5) (oi := _) (v := ?_) (by kernel_rfl) rfl (by kernel_rfl) (fun _ _ _ h => h) (Or.inl ⟨by rfl, ?_⟩) (by assumption) ?_
          rotate_left 1
          · intro w hSw; (try dsimp only at hSw); go_simp; (with_reducible rfl)
          (try simp only [Act.put, List.getElem_toArray, List.getElem_cons_zero, List.getElem_cons_succ, List.setIfInBounds_toArray, List.set_cons_zero, List.set_cons_succ])
          refine wpAnyH_take1 (i := 6) (oi := _) (v := ?_) (by kernel_rfl) rfl (by kernel_rfl) (fun _ _ _ h => h) (Or.inl ⟨by rfl, ?_⟩) (by assumption) ?_
          rotate_left 1
          · intro w hSw; (try dsimp only at hSw); go_simp; (with_reducible rfl)
          (try simp only [Act.put, List.getElem_toArray, List.getElem_cons_zero, List.getElem_cons_succ, List.setIfInBounds_toArray, List.set_cons_zero, List.set_cons_succ])
          refine wpAnyH_take1 (i := 7) (oi := _) (v := ?_) (by kernel_rfl) rfl (by kernel_rfl) (fun _ _ _ h => h) (Or.inl ⟨by rfl, ?_⟩) (by assumption) ?_
          rotate_left 1
          · intro w hSw; (try dsimp only at hSw); go_simp; (with_reducible rfl)
          (try simp only [Act.put, List.getElem_toArray, List.getElem_cons_zero, List.getElem_cons_succ, List.setIfInBounds_toArray, List.set_cons_zero, List.set_cons_succ])
          refine wpAnyH_take1 (i := 8) (oi := _) (v := ?_) (by kernel_rfl) rfl (by kernel_rfl) (fun _ _ _ h => h) (Or.inl ⟨by rfl, ?_⟩) (by assumption) ?_
          rotate_left 1
          · intro w hSw; (try dsimp only at hSw); go_simp; (with_reducible rfl)
          (try simp only [Act.put, List.getElem_toArray, List.getElem_cons_zero, List.getElem_cons_succ, List.setIfInBounds_toArray, List.set_cons_zero, List.set_cons_succ])
          refine wpAnyH_take1 (i := 9) (oi := _) (v := ?_) (by kernel_rfl) rfl (by kernel_rfl) (fun _ _ _ h => h) (Or.inl ⟨by rfl, ?_⟩) (by assumption) ?_
          rotate_left 1
          · intro w hSw; (try dsimp only at hSw); go_simp; (with_reducible rfl)
          (try simp only [Act.put, List.getElem_toArray, List.getElem_cons_zero, List.getElem_cons_succ, List.setIfInBounds_toArray, List.set_cons_zero, List.set_cons_succ])
          refine wpAnyH_one (i := 10) (by kernel_rfl) rfl (by rfl) fun K hK => ?_
          go_simp
          refine ((PutT_spec (hO.out.bnd.at Seq.way) (HX3.out.at Seq.way) (by omega))).mono ?_
          rintro e y1 ⟨_, rfl, hy1, hz1⟩
          have HY1 := below_step hy1 (Seq.way : Below wr.heap.size wr _)
          have zy1 := HY1.size
          (try dsimp only)
          clear hHeld
          refine hK.out _ _ (Hkeep HY1).out fun hHeld => ?_
          clear hK K
          (try simp only [Act.put, List.getElem_toArray, List.getElem_cons_zero, List.getElem_cons_succ, List.setIfInBounds_toArray, List.set_cons_zero, List.set_cons_succ])
          have HZ1 := Lib.hid (hz1.mono (T := fun b => (S b ∧ b < w.heap.size) ∨ W.heap.size ≤ b) (fun b h _ => by
            have h8 : ((((S b ∧ b < w.heap.size) ∨ W.heap.size ≤ b) ∧ b < wr.heap.size) ∨ (S b ∧ b < w.heap.size)) ∨ wr.drew.heap.size ≤ b := h
            rcases h8 with (h8 | h8) | h8
            · exact h8.1
            · exact .inl h8
            · simp at h8; exact .inr (by omega)) fun _ _ _ => rfl)
          obtain ⟨za, zc, rfl⟩ := hz1.shape
          have row5 := Lib.hid (rowTo hrow.out HY1)
          have fz5 := row5.out.frozen 0
          have oc5 := row5.out.cell (j := 0) (by simp)
          simp only [List.getElem_cons_zero] at oc5
          clear hz1
          refine wpAnyH_take1 (i := 11) (oi := _) (v := ?_) (by kernel_rfl) rfl (by kernel_rfl) (fun _ _ _ h => h) (Or.inl ⟨by rfl, ?_⟩) (by assumption) ?_
          rotate_left 1
          · intro w hSw; (try dsimp only at hSw); go_simp; (with_reducible rfl)
          (try simp only [Act.put, List.getElem_toArray, List.getElem_cons_zero, List.getElem_cons_succ, List.setIfInBounds_toArray, List.set_cons_zero, List.set_cons_succ])
          refine wpAnyH_done (by kernel_rfl) ?_ _
          refine (show Oper.wp _ _ _ _ _ _ from ?_)
          clear hHeld
          go_simp
          refine NoPanic.normal ?_
          go_wp2_with fail
          go_roundw
          case rel =>
            refine ⟨j + 1, .slice za (insC cmpR x Q).length zc, by go_num, hjl, Lib.hid ?_, Lib.hid ?_, Lib.hid ?_⟩
            · exact row5.out.set 0 _
            · rw [hst.out]
              exact gr_seq HZ1.out (gr_set _ _ _ _) fun b h e => by simp at e; have : (S b ∧ b < w.heap.size) ∨ W.heap.size ≤ b := h; omega
            · exact gr_trans (gr_of hgr.out (HY1.mono hzr)) (gr_set _ _ _ _)
          case measure => simp [intOf]; omega
        · obtain rfl : j = i.pos.length := by omega
          have hjI : ¬ (i.pos.length : Int) < (i.pos.length : Int) := by omega
          have hN1 := Lib.hid (show Seq (seqE cellE) (fun b => (S b ∧ b < w.heap.size) ∨ W.heap.size ≤ b) wr va (setL cmpR (M ++ [i.head] ++ i.pos ++ i.neg.take 0)) by
            have h9 := hO.out
            rw [List.take_length] at h9
            rw [List.take_zero, List.append_nil]; exact h9)
          clear hO hjl hj
          have hR1 := hrow
          have hG1 := hgr
          obtain ⟨wu, rfl⟩ : ∃ wu, wu = wr := ⟨_, rfl⟩
          clear hrow hgr hN0 hR0 hG0
          go_wp2_with fail
          go_loopw [6] (fun i' wr => ∃ (j : Nat) (va : Value), i' = .int .i64 j ∧ j ≤ i.neg.length ∧ Hid (Row 26 wr (w.heap.size + 1) [va, .slice none 0 0]) ∧ Hid (Seq (seqE cellE) (fun b => (S b ∧ b < w.heap.size) ∨ W.heap.size ≤ b) wr va (setL cmpR (M ++ [i.head] ++ i.pos ++ i.neg.take j))) ∧ Hid (W.grownBy wr (some (w.heap.size + 1)))) (fun i' _ => i.neg.length - (intOf i').toNat)
          case atStart => exact ⟨0, _, rfl, Nat.zero_le _, hR1, hN1, hG1⟩
          case round =>
            obtain ⟨j, va, rfl, hj, hrow, hO, hgr⟩ := hrel
            have hzr := hgr.out.size
            have hbw := Lib.hid (HB.out.trans (gr_below hgr.out (B := w.heap.size) (by omega) (by omega)))
            obtain ⟨_, _, ee, -, -, -, -, x5⟩ := (HL.out.at hbw.out)
            simp only [Value.slice.injEq, true_and] at ee
            obtain ⟨ee, rfl⟩ := ee
            obtain ⟨b', off', ha', hc', pa', pc', na', nc', e2, ⟨-, hbW'⟩, hb, c0, c1, c2, hX, hP, hN⟩ := x5.ins hlt
            rw [← ee] at e2
            simp only [Option.some.injEq, Addr.mk.injEq, and_true] at e2
            obtain ⟨rfl, rfl⟩ := e2
            rw [← hie.out] at c0 c1 c2 hX hP hN
            have HPj := Lib.hid (show Seq (seqE cellE) _ wr (.slice na' i.neg.length nc') i.neg from hN)
            clear hX hP hN x5 ee c0 c1
            by_cases hjl : j < i.neg.length
            · obtain ⟨_, _, ee, -, -, -, -, y5⟩ := HPj.out
              simp only [Value.slice.injEq, true_and] at ee
              obtain ⟨rfl, rfl⟩ := ee
              obtain ⟨b3, off3, p3, n3, rfl, ⟨-, hbW3⟩, hb3, hc3, hX3⟩ := y5.seq hjl
              have HX3 := Lib.hid hX3
              have hst := Lib.hid (show setL cmpR (M ++ [i.head] ++ i.pos ++ i.neg.take (j + 1)) = insC cmpR i.neg[j] (setL cmpR (M ++ [i.head] ++ i.pos ++ i.neg.take j)) by rw [List.take_succ_eq_append_getElem hjl, ← List.append_assoc]; exact setL_snoc _ _)
              have hQl := setL_lenle cmpR (M ++ [i.head] ++ i.pos ++ i.neg.take j) (n := 100000) (by simp only [List.length_append, List.length_cons, List.length_nil, List.length_take]; have := hpt.out; have := Hn.out; omega)
              obtain ⟨x, hx⟩ : ∃ x, x = i.neg[j] := ⟨_, rfl⟩
              rw [← hx] at hc3 HX3 hst
              obtain ⟨Q, hQ⟩ : ∃ Q, Q = setL cmpR (M ++ [i.head] ++ i.pos ++ i.neg.take j) := ⟨_, rfl⟩
              rw [← hQ] at hO hst hQl
              obtain ⟨oa, oc, rfl⟩ := hO.out.shape
              have o0 := hrow.out.cell (j := 0) (by simp)
              simp only [List.getElem_cons_zero] at o0
              have lO := hrow.out.lt
              have hjI : (j : Int) < (i.neg.length : Int) := by omega
              have hj0 : (0 : Int) ≤ (j : Int) := by omega
              clear hX3 y5 hx hQ
              go_upto_region 13 with fail
              have Hkeep := fun {Wk : World} (hW : Below wr.heap.size wr Wk) => Lib.hid (show Wk.cell? ⟨w.heap.size + 1, 0, none⟩ = some (.slice oa Q.length oc) ∧ Wk.cell? ⟨b, off + k * 3 + 2, none⟩ = some (.slice (some ⟨b3, off3, none⟩) i.neg.length nc') ∧ Wk.cell? ⟨b3, off3 + j, none⟩ = some (.slice p3 x.length n3) from ⟨(hW.cell (p := ⟨w.heap.size + 1, 0, none⟩) lO).trans o0, (hW.cell (p := ⟨b, off + k * 3 + 2, none⟩) hb).trans c2, (hW.cell (p := ⟨b3, off3 + j, none⟩) hb3).trans hc3⟩)
              (try simp only [List.append_eq, List.cons_append, List.nil_append])
              refine wp_region_noPanic ?_
              refine wp_region_last (S := fun w' => w'.cell? ⟨w.heap.size + 1, 0, none⟩ = some (.slice oa Q.length oc) ∧ w'.cell? ⟨b, off + k * 3 + 2, none⟩ = some (.slice (some ⟨b3, off3, none⟩) i.neg.length nc') ∧ w'.cell? ⟨b3, off3 + j, none⟩ = some (.slice p3 x.length n3)) (by kernel_rfl) ?_ rfl ?_ (fun hHeld => ?_)
              · kernel_rfl
              · exact (Hkeep (Below.drew (Below.refl _ _))).out
              dsimp only [List.dropLast]
              refine wpAnyH_take1 (i := 0) (oi := _) (v := ?_) (by kernel_rfl) rfl (by kernel_rfl) (fun _ _ _ h => h) (Or.inl ⟨by rfl, ?_⟩) (by assumption) ?_
              rotate_left 1
              · intro w hSw; (try dsimp only at hSw); go_simp; (with_reducible rfl)
              (try simp only [Act.put, List.getElem_toArray, List.getElem_cons_zero, List.setIfInBounds_toArray, List.set_cons_zero, List.set_cons_succ])
              refine wpAnyH_take1 (i := 1) (oi := _) (v := ?_) (by kernel_rfl) rfl (by kernel_rfl) (fun _ _ _ h => h) (Or.inl ⟨by rfl, ?_⟩) (by assumption) ?_
              rotate_left 1
              · intro w hSw; (try dsimp only at hSw); go_simp; (with_reducible rfl)
              (try simp only [Act.put, List.getElem_toArray, List.getElem_cons_zero, List.getElem_cons_succ, List.setIfInBounds_toArray, List.set_cons_zero, List.set_cons_succ])
              refine wpAnyH_take1 (i := 2) (oi := _) (v := ?_) (by kernel_rfl) rfl (by kernel_rfl) (fun _ _ _ h => h) (Or.inl ⟨by rfl, ?_⟩) (by assumption) ?_
              rotate_left 1
              · intro w hSw; (try dsimp only at hSw); go_simp; (with_reducible rfl)
              (try simp only [Act.put, List.getElem_toArray, List.getElem_cons_zero, List.getElem_cons_succ, List.setIfInBounds_toArray, List.set_cons_zero, List.set_cons_succ])
              refine wpAnyH_take1 (i := 3) (oi := _) (v := ?_) (by kernel_rfl) rfl (by kernel_rfl) (fun _ _ _ h => h) (Or.inl ⟨by rfl, ?_⟩) (by assumption) ?_
              rotate_left 1
              · intro w hSw; (try dsimp only at hSw); go_simp; (with_reducible rfl)
              (try simp only [Act.put, List.getElem_toArray, List.getElem_cons_zero, List.getElem_cons_succ, List.setIfInBounds_toArray, List.set_cons_zero, List.set_cons_succ])
              refine wpAnyH_take1 (i := 4) (oi := _) (v := ?_) (by kernel_rfl) rfl (by kernel_rfl) (fun _ _ _ h => h) (Or.inl ⟨by rfl, ?_⟩) (by assumption) ?_
              rotate_left 1
              · intro w hSw; (try dsimp only at hSw); go_simp; (with_reducible rfl)
              (try simp only [Act.put, List.getElem_toArray, List.getElem_cons_zero, List.getElem_cons_succ, List.setIfInBounds_toArray, List.set_cons_zero, List.set_cons_succ])
              refine wpAnyH_take1 (i := 5) (oi := _) (v := ?_) (by kernel_rfl) rfl (by kernel_rfl) (fun _ _ _ h => h) (Or.inl ⟨by rfl, ?_⟩) (by assumption) ?_
              rotate_left 1
              · intro w hSw; (try dsimp only at hSw); go_simp; (with_reducible rfl)
              (try simp only [Act.put, List.getElem_toArray, List.getElem_cons_zero, List.getElem_cons_succ, List.setIfInBounds_toArray, List.set_cons_zero, List.set_cons_succ])
              refine wpAnyH_take1 (i := 6) (oi := _) (v := ?_) (by kernel_rfl) rfl (by kernel_rfl) (fun _ _ _ h => h) (Or.inl ⟨by rfl, ?_⟩) (by assumption) ?_
              rotate_left 1
              · intro w hSw; (try dsimp only at hSw); go_simp; (with_reducible rfl)
              (try simp only [Act.put, List.getElem_toArray, List.getElem_cons_zero, List.getElem_cons_succ, List.setIfInBounds_toArray, List.set_cons_zero, List.set_cons_succ])
              refine wpAnyH_take1 (i := 7) (oi := _) (v := ?_) (by kernel_rfl) rfl (by kernel_rfl) (fun _ _ _ h => h) (Or.inl ⟨by rfl, ?_⟩) (by assumption) ?_
              rotate_left 1
              · intro w hSw; (try dsimp only at hSw); go_simp; (with_reducible rfl)
              (try simp only [Act.put, List.getElem_toArray, List.getElem_cons_zero, List.getElem_cons_succ, List.setIfInBounds_toArray, List.set_cons_zero, List.set_cons_succ])
              refine wpAnyH_take1 (i := 8) (oi := _) (v := ?_) (by kernel_rfl) rfl (by kernel_rfl) (fun _ _ _ h => h) (Or.inl ⟨by rfl, ?_⟩) (by assumption) ?_
              rotate_left 1
              · intro w hSw; (try dsimp only at hSw); go_simp; (with_reducible rfl)
              (try simp only [Act.put, List.getElem_toArray, List.getElem_cons_zero, List.getElem_cons_succ, List.setIfInBounds_toArray, List.set_cons_zero, List.set_cons_succ])
              refine wpAnyH_take1 (i := 9) (oi := _) (v := ?_) (by kernel_rfl) rfl (by kernel_rfl) (fun _ _ _ h => h) (Or.inl ⟨by rfl, ?_⟩) (by assumption) ?_
              rotate_left 1
              · intro w hSw; (try dsimp only at hSw); go_simp; (with_reducible rfl)
              (try simp only [Act.put, List.getElem_toArray, List.getElem_cons_zero, List.getElem_cons_succ, List.setIfInBounds_toArray, List.set_cons_zero, List.set_cons_succ])
              refine wpAnyH_one (i := 10) (by kernel_rfl) rfl (by rfl) fun K hK => ?_
              go_simp
              refine ((PutT_spec (hO.out.bnd.at Seq.way) (HX3.out.at Seq.way) (by omega))).mono ?_
              rintro e y1 ⟨_, rfl, hy1, hz1⟩
              have HY1 := below_step hy1 (Seq.way : Below wr.heap.size wr _)
              have zy1 := HY1.size
              (try dsimp only)
              clear hHeld
              refine hK.out _ _ (Hkeep HY1).out fun hHeld => ?_
              clear hK K
              (try simp only [Act.put, List.getElem_toArray, List.getElem_cons_zero, List.getElem_cons_succ, List.setIfInBounds_toArray, List.set_cons_zero, List.set_cons_succ])
              have HZ1 := Lib.hid (hz1.mono (T := fun b => (S b ∧ b < w.heap.size) ∨ W.heap.size ≤ b) (fun b h _ => by
                have h8 : ((((S b ∧ b < w.heap.size) ∨ W.heap.size ≤ b) ∧ b < wr.heap.size) ∨ (S b ∧ b < w.heap.size)) ∨ wr.drew.heap.size ≤ b := h
                rcases h8 with (h8 | h8) | h8
                · exact h8.1
                · exact .inl h8
                · simp at h8; exact .inr (by omega)) fun _ _ _ => rfl)
              obtain ⟨za, zc, rfl⟩ := hz1.shape
              have row5 := Lib.hid (rowTo hrow.out HY1)
              have fz5 := row5.out.frozen 0
              have oc5 := row5.out.cell (j := 0) (by simp)
              simp only [List.getElem_cons_zero] at oc5
              clear hz1
              refine wpAnyH_take1 (i := 11) (oi := _) (v := ?_) (by kernel_rfl) rfl (by kernel_rfl) (fun _ _ _ h => h) (Or.inl ⟨by rfl, ?_⟩) (by assumption) ?_
              rotate_left 1
              · intro w hSw; (try dsimp only at hSw); go_simp; (with_reducible rfl)
              (try simp only [Act.put, List.getElem_toArray, List.getElem_cons_zero, List.getElem_cons_succ, List.setIfInBounds_toArray, List.set_cons_zero, List.set_cons_succ])
              refine wpAnyH_done (by kernel_rfl) ?_ _
              refine (show Oper.wp _ _ _ _ _ _ from ?_)
              clear hHeld
              go_simp
              refine NoPanic.normal ?_
              go_wp2_with fail
              go_roundw
              case rel =>
                refine ⟨j + 1, .slice za (insC cmpR x Q).length zc, by go_num, hjl, Lib.hid ?_, Lib.hid ?_, Lib.hid ?_⟩
                · exact row5.out.set 0 _
                · rw [hst.out]
                  exact gr_seq HZ1.out (gr_set _ _ _ _) fun b h e => by simp at e; have : (S b ∧ b < w.heap.size) ∨ W.heap.size ≤ b := h; omega
                · exact gr_trans (gr_of hgr.out (HY1.mono hzr)) (gr_set _ _ _ _)
              case measure => simp [intOf]; omega
            · obtain rfl : j = i.neg.length := by omega
              have hjI : ¬ (i.neg.length : Int) < (i.neg.length : Int) := by omega
              have hN2 := Lib.hid (show Seq (seqE cellE) (fun b => (S b ∧ b < w.heap.size) ∨ W.heap.size ≤ b) wr va (setL cmpR (M ++ [i.head] ++ i.pos ++ i.neg)) by
                have h9 := hO.out
                rw [List.take_length] at h9
                exact h9)
              clear hO hjl hj
              go_wp2_with fail
              go_roundw
              case rel =>
                refine ⟨k + 1, va, by go_num, hlt, hrow, Lib.hid ?_, hgr⟩
                rw [hsn.out]
                have h9 := hN2.out
                have e9 : M ++ [i.head] ++ i.pos ++ i.neg = M ++ ((i.head :: i.pos) ++ i.neg) := by simp
                rwa [e9] at h9
              case measure => simp [intOf]; omega
    · obtain rfl : k = l.length := by omega
      have hkl : ¬ (l.length : Int) < (l.length : Int) := by omega
      have hO1 := Lib.hid (show Seq (seqE cellE) _ wr va (setL cmpR (allT l)) by have := hO.out; rwa [List.take_length] at this)
      have hfr := Lib.hid (show fromR l = ⟨setL cmpR (allT l), setL cmpU (l.map (ruleT (setL cmpR (allT l))))⟩ from rfl)
      have hAl := setL_lenle cmpR (allT l) Hn.out
      obtain ⟨A, hAe⟩ : ∃ A, A = setL cmpR (allT l) := ⟨_, rfl⟩
      rw [← hAe] at hO1 hfr hAl
      obtain ⟨aa, ac, rfl⟩ := hO1.out.shape
      obtain ⟨wz, rfl⟩ : ∃ wz, wz = wr := ⟨_, rfl⟩
      clear hO hAe hlt hk
      go_wp2_with fail
      go_loopw [7] (fun i wr => ∃ (k : Nat) (vb : Value), i = .int .i64 k ∧ k ≤ l.length ∧ Hid (Row 26 wr (w.heap.size + 1) [.slice aa A.length ac, vb]) ∧ Hid (Seq ruleE (fun b => W.heap.size ≤ b) wr vb (setL cmpU ((l.take k).map (ruleT A)))) ∧ Hid (wz.grownBy wr (some (w.heap.size + 1)))) (fun i _ => l.length - (intOf i).toNat)
      case atStart => exact ⟨0, _, rfl, Nat.zero_le _, hrow, Lib.hid (Seq.nil _ _ _), Lib.hid (gr_refl _ _)⟩
      case round =>
        clear hkl
        obtain ⟨k, vb, rfl, hk, hrow2, hO2, hgr2⟩ := hrel
        have hzr2 := hgr2.out.size
        have hbw2 := Lib.hid (hbw.out.trans (gr_below hgr2.out (B := w.heap.size) (by omega) (by omega)))
        have HZr2 := Lib.hid (HZr.out.at (hgr2.out.block _ HZr.out.lt (by simp <;> omega)))
        have hA2 := Lib.hid (gr_seq hO1.out hgr2.out fun b h e => by simp at e; have : (S b ∧ b < w.heap.size) ∨ W.heap.size ≤ b := h; omega)
        by_cases hlt : k < l.length
        · obtain ⟨_, _, ee, -, -, -, -, x5⟩ := (HL.out.at hbw2.out)
          simp only [Value.slice.injEq, true_and] at ee
          obtain ⟨rfl, rfl⟩ := ee
          obtain ⟨b, off, ha, hc, pa, pc, na, nc, rfl, ⟨-, hbW⟩, hb, c0, c1, c2, hX, hP, hN⟩ := x5.ins hlt
          have HX := Lib.hid hX
          have HPs := Lib.hid hP
          have HNs := Lib.hid hN
          have hpt := Lib.hid (allT_part hlt)
          have hst := Lib.hid (show setL cmpU ((l.take (k + 1)).map (ruleT A)) = insC cmpU (ruleT A l[k]) (setL cmpU ((l.take k).map (ruleT A))) by rw [map_snoc _ hlt]; exact setL_snoc _ _)
          have hQl := setL_lenle cmpU ((l.take k).map (ruleT A)) (n := 100000) (by rw [List.length_map, List.length_take]; omega)
          have hsm := Lib.hid (show ∀ y ∈ setL cmpU ((l.take k).map (ruleT A)), SmU y from fun y hy => by
            rw [mem_setL cmpU_ok, List.mem_map] at hy
            obtain ⟨j, -, rfl⟩ := hy
            exact smU_rule (by omega) j)
          have hsm1 := Lib.hid (smU_rule (A := A) (by omega) l[k])
          have hpl : l[k].pos.length ≤ 1000000 := by have := hpt.out; have := Hn.out; omega
          have hnl : l[k].neg.length ≤ 1000000 := by have := hpt.out; have := Hn.out; omega
          obtain ⟨i, hi⟩ : ∃ i, i = l[k] := ⟨_, rfl⟩
          rw [← hi] at c0 c1 c2 HX HPs HNs hst hsm1 hpl hnl
          obtain ⟨Q, hQ⟩ : ∃ Q, Q = setL cmpU ((l.take k).map (ruleT A)) := ⟨_, rfl⟩
          rw [← hQ] at hO2 hst hQl hsm
          obtain ⟨oa, oc, rfl⟩ := hO2.out.shape
          have o0 := hrow2.out.cell (j := 0) (by simp)
          have o1 := hrow2.out.cell (j := 1) (by simp)
          have lO := hrow2.out.lt
          simp only [List.getElem_cons_zero, List.getElem_cons_succ] at o0 o1
          have hkl : (k : Int) < (l.length : Int) := by omega
          have hk0 : (0 : Int) ≤ (k : Int) := by omega
          have hrule := Lib.hid (show ruleT A i = ⟨posT A i.head, placesT A i.pos, placesT A i.neg⟩ from rfl)
          have iok := posT_int A (by omega) i.head
          have hPg := Lib.hid (show ProgV (fun b => (S b ∧ b < w.heap.size) ∨ W.heap.size ≤ b) wr (.agg #[.slice aa A.length ac, .slice oa Q.length oc]) ⟨A, Q⟩ from ⟨_, _, rfl, hA2.out, hO2.out.mono (fun b h _ => .inr h) fun _ _ _ => rfl⟩)
          clear hX hP hN x5 hi hQ hpt
          go_upto_region 17 with fail
          have Hkeep := fun {Wk : World} (hW : Below wr.heap.size wr Wk) => Lib.hid (show Wk.cell? ⟨w.heap.size + 1, 0, none⟩ = some (.slice aa A.length ac) ∧ Wk.cell? ⟨w.heap.size + 1, 1, none⟩ = some (.slice oa Q.length oc) ∧ Wk.cell? ⟨b, off + k * 3, none⟩ = some (.slice ha i.head.length hc) ∧ Wk.cell? ⟨b, off + k * 3 + 1, none⟩ = some (.slice pa i.pos.length pc) ∧ Wk.cell? ⟨b, off + k * 3 + 2, none⟩ = some (.slice na i.neg.length nc) from ⟨(hW.cell (p := ⟨w.heap.size + 1, 0, none⟩) lO).trans o0, (hW.cell (p := ⟨w.heap.size + 1, 1, none⟩) lO).trans o1, (hW.cell (p := ⟨b, off + k * 3, none⟩) hb).trans c0, (hW.cell (p := ⟨b, off + k * 3 + 1, none⟩) hb).trans c1, (hW.cell (p := ⟨b, off + k * 3 + 2, none⟩) hb).trans c2⟩)
          (try simp only [List.append_eq, List.cons_append, List.nil_append])
          refine wp_region_noPanic ?_
          refine wp_region_last (S := fun w' => w'.cell? ⟨w.heap.size + 1, 0, none⟩ = some (.slice aa A.length ac) ∧ w'.cell? ⟨w.heap.size + 1, 1, none⟩ = some (.slice oa Q.length oc) ∧ w'.cell? ⟨b, off + k * 3, none⟩ = some (.slice ha i.head.length hc) ∧ w'.cell? ⟨b, off + k * 3 + 1, none⟩ = some (.slice pa i.pos.length pc) ∧ w'.cell? ⟨b, off + k * 3 + 2, none⟩ = some (.slice na i.neg.length nc)) (by kernel_rfl) ?_ rfl ?_ (fun hHeld => ?_)
          · kernel_rfl
          · exact (Hkeep (Below.drew (Below.refl _ _))).out
          dsimp only [List.dropLast]
          refine wpAnyH_take1 (i := 0) (oi := _) (v := ?_) (by kernel_rfl) rfl (by kernel_rfl) (fun _ _ _ h => h) (Or.inl ⟨by rfl, ?_⟩) (by assumption) ?_
          rotate_left 1
          · intro w hSw; (try dsimp only at hSw); go_simp; (with_reducible rfl)
          (try simp only [Act.put, List.getElem_toArray, List.getElem_cons_zero, List.setIfInBounds_toArray, List.set_cons_zero, List.set_cons_succ])
          refine wpAnyH_take1 (i := 1) (oi := _) (v := ?_) (by kernel_rfl) rfl (by kernel_rfl) (fun _ _ _ h => h) (Or.inl ⟨by rfl, ?_⟩) (by assumption) ?_
          rotate_left 1
          · intro w hSw; (try dsimp only at hSw); go_simp; (with_reducible rfl)
          (try simp only [Act.put, List.getElem_toArray, List.getElem_cons_zero, List.getElem_cons_succ, List.setIfInBounds_toArray, List.set_cons_zero, List.set_cons_succ])
          refine wpAnyH_take1 (i := 2) (oi := _) (v := ?_) (by kernel_rfl) rfl (by kernel_rfl) (fun _ _ _ h => h) (Or.inl ⟨by rfl, ?_⟩) (by assumption) ?_
          rotate_left 1
          · intro w hSw; (try dsimp only at hSw); go_simp; (with_reducible rfl)
          (try simp only [Act.put, List.getElem_toArray, List.getElem_cons_zero, List.getElem_cons_succ, List.setIfInBounds_toArray, List.set_cons_zero, List.set_cons_succ])
          refine wpAnyH_take1 (i := 3) (oi := _) (v := ?_) (by kernel_rfl) rfl (by kernel_rfl) (fun _ _ _ h => h) (Or.inl ⟨by rfl, ?_⟩) (by assumption) ?_
          rotate_left 1
          · intro w hSw; (try dsimp only at hSw); go_simp; (with_reducible rfl)
          (try simp only [Act.put, List.getElem_toArray, List.getElem_cons_zero, List.getElem_cons_succ, List.setIfInBounds_toArray, List.set_cons_zero, List.set_cons_succ])
          refine wpAnyH_take1 (i := 4) (oi := _) (v := ?_) (by kernel_rfl) rfl (by kernel_rfl) (fun _ _ _ h => h) (Or.inl ⟨by rfl, ?_⟩) (by assumption) ?_
          rotate_left 1
          · intro w hSw; (try dsimp only at hSw); go_simp; (with_reducible rfl)
          (try simp only [Act.put, List.getElem_toArray, List.getElem_cons_zero, List.getElem_cons_succ, List.setIfInBounds_toArray, List.set_cons_zero, List.set_cons_succ])
          refine wpAnyH_take1 (i := 5) (oi := _) (v := ?_) (by kernel_rfl) rfl (by kernel_rfl) (fun _ _ _ h => h) (Or.inl ⟨by rfl, ?_⟩) (by assumption) ?_
          rotate_left 1
          · intro w hSw; (try dsimp only at hSw); go_simp; (with_reducible rfl)
          (try simp only [Act.put, List.getElem_toArray, List.getElem_cons_zero, List.getElem_cons_succ, List.setIfInBounds_toArray, List.set_cons_zero, List.set_cons_succ])
          refine wpAnyH_take1 (i := 6) (oi := _) (v := ?_) (by kernel_rfl) rfl (by kernel_rfl) (fun _ _ _ h => h) (Or.inl ⟨by rfl, ?_⟩) (by assumption) ?_
          rotate_left 1
          · intro w hSw; (try dsimp only at hSw); go_simp; (with_reducible rfl)
          (try simp only [Act.put, List.getElem_toArray, List.getElem_cons_zero, List.getElem_cons_succ, List.setIfInBounds_toArray, List.set_cons_zero, List.set_cons_succ])
          refine wpAnyH_take1 (i := 7) (oi := _) (v := ?_) (by kernel_rfl) rfl (by kernel_rfl) (fun _ _ _ h => h) (Or.inl ⟨by rfl, ?_⟩) (by assumption) ?_
          rotate_left 1
          · intro w hSw; (try dsimp only at hSw); go_simp; (with_reducible rfl)
          (try simp only [Act.put, List.getElem_toArray, List.getElem_cons_zero, List.getElem_cons_succ, List.setIfInBounds_toArray, List.set_cons_zero, List.set_cons_succ])
          refine wpAnyH_take1 (i := 9) (oi := _) (v := ?_) (by kernel_rfl) rfl (by kernel_rfl) (fun _ _ _ h => h) (Or.inl ⟨by rfl, ?_⟩) (by assumption) ?_
          rotate_left 1
          · intro w hSw; (try dsimp only at hSw); go_simp; (with_reducible rfl)
          (try simp only [Act.put, List.getElem_toArray, List.getElem_cons_zero, List.getElem_cons_succ, List.setIfInBounds_toArray, List.set_cons_zero, List.set_cons_succ])
          refine wpAnyH_take1 (i := 10) (oi := _) (v := ?_) (by kernel_rfl) rfl (by kernel_rfl) (fun _ _ _ h => h) (Or.inl ⟨by rfl, ?_⟩) (by assumption) ?_
          rotate_left 1
          · intro w hSw; (try dsimp only at hSw); go_simp; (with_reducible rfl)
          (try simp only [Act.put, List.getElem_toArray, List.getElem_cons_zero, List.getElem_cons_succ, List.setIfInBounds_toArray, List.set_cons_zero, List.set_cons_succ])
          refine wpAnyH_take1 (i := 11) (oi := _) (v := ?_) (by kernel_rfl) rfl (by kernel_rfl) (fun _ _ _ h => h) (Or.inl ⟨by rfl, ?_⟩) (by assumption) ?_
          rotate_left 1
          · intro w hSw; (try dsimp only at hSw); go_simp; (with_reducible rfl)
          (try simp only [Act.put, List.getElem_toArray, List.getElem_cons_zero, List.getElem_cons_succ, List.setIfInBounds_toArray, List.set_cons_zero, List.set_cons_succ])
          refine wpAnyH_take1 (i := 12) (oi := _) (v := ?_) (by kernel_rfl) rfl (by kernel_rfl) (fun _ _ _ h => h) (Or.inl ⟨by rfl, ?_⟩) (by assumption) ?_
          rotate_left 1
          · intro w hSw; (try dsimp only at hSw); go_simp; (with_reducible rfl)
          (try simp only [Act.put, List.getElem_toArray, List.getElem_cons_zero, List.getElem_cons_succ, List.setIfInBounds_toArray, List.set_cons_zero, List.set_cons_succ])
          refine wpAnyH_take1 (i := 13) (oi := _) (v := ?_) (by kernel_rfl) rfl (by kernel_rfl) (fun _ _ _ h => h) (Or.inl ⟨by rfl, ?_⟩) (by assumption) ?_
          rotate_left 1
          · intro w hSw; (try dsimp only at hSw); go_simp; (with_reducible rfl)
          (try simp only [Act.put, List.getElem_toArray, List.getElem_cons_zero, List.getElem_cons_succ, List.setIfInBounds_toArray, List.set_cons_zero, List.set_cons_succ])
          refine wpAnyH_take1 (i := 14) (oi := _) (v := ?_) (by kernel_rfl) rfl (by kernel_rfl) (fun _ _ _ h => h) (Or.inl ⟨by rfl, ?_⟩) (by assumption) ?_
          rotate_left 1
          · intro w hSw; (try dsimp only at hSw); go_simp; (with_reducible rfl)
          (try simp only [Act.put, List.getElem_toArray, List.getElem_cons_zero, List.getElem_cons_succ, List.setIfInBounds_toArray, List.set_cons_zero, List.set_cons_succ])
          refine wpAnyH_take1 (i := 16) (oi := _) (v := ?_) (by kernel_rfl) rfl (by kernel_rfl) (fun _ _ _ h => h) (Or.inl ⟨by rfl, ?_⟩) (by assumption) ?_
          rotate_left 1
          · intro w hSw; (try dsimp only at hSw); go_simp; (with_reducible rfl)
          (try simp only [Act.put, List.getElem_toArray, List.getElem_cons_zero, List.getElem_cons_succ, List.setIfInBounds_toArray, List.set_cons_zero, List.set_cons_succ])
          refine wpAnyH_take1 (i := 17) (oi := _) (v := ?_) (by kernel_rfl) rfl (by kernel_rfl) (fun _ _ _ h => h) (Or.inl ⟨by rfl, ?_⟩) (by assumption) ?_
          rotate_left 1
          · intro w hSw; (try dsimp only at hSw); go_simp; (with_reducible rfl)
          (try simp only [Act.put, List.getElem_toArray, List.getElem_cons_zero, List.getElem_cons_succ, List.setIfInBounds_toArray, List.set_cons_zero, List.set_cons_succ])
          refine wpAnyH_take1 (i := 18) (oi := _) (v := ?_) (by kernel_rfl) rfl (by kernel_rfl) (fun _ _ _ h => h) (Or.inl ⟨by rfl, ?_⟩) (by assumption) ?_
          rotate_left 1
          · intro w hSw; (try dsimp only at hSw); go_simp; (with_reducible rfl)
          (try simp only [Act.put, List.getElem_toArray, List.getElem_cons_zero, List.getElem_cons_succ, List.setIfInBounds_toArray, List.set_cons_zero, List.set_cons_succ])
          refine wpAnyH_take1 (i := 19) (oi := _) (v := ?_) (by kernel_rfl) rfl (by kernel_rfl) (fun _ _ _ h => h) (Or.inl ⟨by rfl, ?_⟩) (by assumption) ?_
          rotate_left 1
          · intro w hSw; (try dsimp only at hSw); go_simp; (with_reducible rfl)
          (try simp only [Act.put, List.getElem_toArray, List.getElem_cons_zero, List.getElem_cons_succ, List.setIfInBounds_toArray, List.set_cons_zero, List.set_cons_succ])
          refine wpAnyH_take1 (i := 20) (oi := _) (v := ?_) (by kernel_rfl) rfl (by kernel_rfl) (fun _ _ _ h => h) (Or.inl ⟨by rfl, ?_⟩) (by assumption) ?_
          rotate_left 1
          · intro w hSw; (try dsimp only at hSw); go_simp; (with_reducible rfl)
          (try simp only [Act.put, List.getElem_toArray, List.getElem_cons_zero, List.getElem_cons_succ, List.setIfInBounds_toArray, List.set_cons_zero, List.set_cons_succ])
          refine wpAnyH_take1 (i := 21) (oi := _) (v := ?_) (by kernel_rfl) rfl (by kernel_rfl) (fun _ _ _ h => h) (Or.inl ⟨by rfl, ?_⟩) (by assumption) ?_
          rotate_left 1
          · intro w hSw; (try dsimp only at hSw); go_simp; (with_reducible rfl)
          (try simp only [Act.put, List.getElem_toArray, List.getElem_cons_zero, List.getElem_cons_succ, List.setIfInBounds_toArray, List.set_cons_zero, List.set_cons_succ])
          refine wpAnyH_one (i := 8) (by kernel_rfl) rfl (by rfl) fun K hK => ?_
          go_simp
          refine ((FindR_spec (hPg.out.at Seq.way) (HX.out.at Seq.way))).mono ?_
          rintro e y1 ⟨rfl, hy1⟩
          have HY1 := below_step hy1 (Seq.way : Below wr.heap.size wr _)
          have zy1 := HY1.size
          (try dsimp only)
          clear hHeld
          refine hK.out _ _ (Hkeep HY1).out fun hHeld => ?_
          clear hK K
          (try simp only [Act.put, List.getElem_toArray, List.getElem_cons_zero, List.getElem_cons_succ, List.setIfInBounds_toArray, List.set_cons_zero, List.set_cons_succ])
          refine wpAnyH_one (i := 15) (by kernel_rfl) rfl (by rfl) fun K hK => ?_
          go_simp
          refine ((placesR_spec (hPg.out.at Seq.way) (HPs.out.at Seq.way) (by omega))).mono ?_
          rintro e y2 ⟨_, rfl, hy2, hz2⟩
          have HY2 := below_step hy2 (Seq.way : Below wr.heap.size wr _)
          have zy2 := HY2.size
          (try dsimp only)
          clear hHeld
          refine hK.out _ _ (Hkeep HY2).out fun hHeld => ?_
          clear hK K
          (try simp only [Act.put, List.getElem_toArray, List.getElem_cons_zero, List.getElem_cons_succ, List.setIfInBounds_toArray, List.set_cons_zero, List.set_cons_succ])
          have HZ2 := Lib.hid (hz2.mono (T := fun b => W.heap.size ≤ b) (fun b h _ => by have h8 : y1.heap.size ≤ b := h; omega) fun _ _ _ => rfl)
          obtain ⟨xa2, xc2, rfl⟩ := hz2.shape
          clear hz2
          refine wpAnyH_one (i := 22) (by kernel_rfl) rfl (by rfl) fun K hK => ?_
          go_simp
          refine ((placesR_spec (hPg.out.at Seq.way) (HNs.out.at Seq.way) (by omega))).mono ?_
          rintro e y3 ⟨_, rfl, hy3, hz3⟩
          have HY3 := below_step hy3 (Seq.way : Below wr.heap.size wr _)
          have zy3 := HY3.size
          (try dsimp only)
          clear hHeld
          refine hK.out _ _ (Hkeep HY3).out fun hHeld => ?_
          clear hK K
          (try simp only [Act.put, List.getElem_toArray, List.getElem_cons_zero, List.getElem_cons_succ, List.setIfInBounds_toArray, List.set_cons_zero, List.set_cons_succ])
          have HZ3 := Lib.hid (hz3.mono (T := fun b => W.heap.size ≤ b) (fun b h _ => by have h8 : y2.heap.size ≤ b := h; omega) fun _ _ _ => rfl)
          obtain ⟨xa3, xc3, rfl⟩ := hz3.shape
          have HZ2b := Lib.hid (HZ2.out.at hy3)
          have hNV := Lib.hid (show RulV (fun b => W.heap.size ≤ b) y3 (.agg #[.int .i64 (posT A i.head), .slice xa2 (placesT A i.pos).length xc2, .slice xa3 (placesT A i.neg).length xc3]) (ruleT A i) from ⟨_, _, rfl, iok, HZ2b.out, HZ3.out⟩)
          clear hz3
          refine wpAnyH_take1 (i := 23) (oi := _) (v := ?_) (by kernel_rfl) rfl (by kernel_rfl) (fun _ _ _ h => h) (Or.inl ⟨by rfl, ?_⟩) (by assumption) ?_
          rotate_left 1
          · intro w hSw; (try dsimp only at hSw); go_simp; (with_reducible rfl)
          (try simp only [Act.put, List.getElem_toArray, List.getElem_cons_zero, List.getElem_cons_succ, List.setIfInBounds_toArray, List.set_cons_zero, List.set_cons_succ])
          refine wpAnyH_one (i := 24) (by kernel_rfl) rfl (by rfl) fun K hK => ?_
          go_simp
          refine ((PutU_spec (hO2.out.at Seq.way) (hNV.out.at Seq.way) hsm.out hsm1.out (by omega))).mono ?_
          rintro e y4 ⟨_, rfl, hy4, hz4⟩
          have HY4 := below_step hy4 (Seq.way : Below wr.heap.size wr _)
          have zy4 := HY4.size
          (try dsimp only)
          clear hHeld
          refine hK.out _ _ (Hkeep HY4).out fun hHeld => ?_
          clear hK K
          (try simp only [Act.put, List.getElem_toArray, List.getElem_cons_zero, List.getElem_cons_succ, List.setIfInBounds_toArray, List.set_cons_zero, List.set_cons_succ])
          have HZ4 := Lib.hid (hz4.mono (T := fun b => W.heap.size ≤ b) (fun b h _ => by
            have h8 : (W.heap.size ≤ b ∨ W.heap.size ≤ b) ∨ y3.heap.size ≤ b := h
            omega) fun _ _ _ => rfl)
          obtain ⟨zoa, zoc, rfl⟩ := hz4.shape
          have row5 := Lib.hid (rowTo hrow2.out HY4)
          have fz5 := row5.out.frozen 1
          have oc5 := row5.out.cell (j := 1) (by simp)
          simp only [List.getElem_cons_zero, List.getElem_cons_succ] at oc5
          clear hz4
          refine wpAnyH_take1 (i := 25) (oi := _) (v := ?_) (by kernel_rfl) rfl (by kernel_rfl) (fun _ _ _ h => h) (Or.inl ⟨by rfl, ?_⟩) (by assumption) ?_
          rotate_left 1
          · intro w hSw; (try dsimp only at hSw); go_simp; (with_reducible rfl)
          (try simp only [Act.put, List.getElem_toArray, List.getElem_cons_zero, List.getElem_cons_succ, List.setIfInBounds_toArray, List.set_cons_zero, List.set_cons_succ])
          refine wpAnyH_done (by kernel_rfl) ?_ _
          refine (show Oper.wp _ _ _ _ _ _ from ?_)
          clear hHeld
          go_simp
          refine NoPanic.normal ?_
          go_wp2_with fail
          go_roundw
          case rel =>
            refine ⟨k + 1, .slice zoa (insC cmpU (ruleT A i) Q).length zoc, by go_num, hlt, Lib.hid ?_, Lib.hid ?_, Lib.hid ?_⟩
            · exact row5.out.set 1 _
            · rw [hst.out]
              exact (gr_seq HZ4.out (gr_set _ _ _ _) fun b h e => by simp at e; have : W.heap.size ≤ b := h; omega)
            · exact gr_trans (gr_of hgr2.out (HY4.mono hzr2)) (gr_set _ _ _ _)
          case measure => simp [intOf]; omega
        · obtain rfl : k = l.length := by omega
          have hkl : ¬ (l.length : Int) < (l.length : Int) := by omega
          have hO3 := Lib.hid (show Seq ruleE _ wr vb (setL cmpU (l.map (ruleT A))) by have := hO2.out; rwa [List.take_length] at this)
          obtain ⟨Q, hQ⟩ : ∃ Q, Q = setL cmpU (l.map (ruleT A)) := ⟨_, rfl⟩
          rw [← hQ] at hO3 hfr
          obtain ⟨oa, oc, rfl⟩ := hO3.out.shape
          have o0 := hrow2.out.cell (j := 0) (by simp)
          have o1 := hrow2.out.cell (j := 1) (by simp)
          have r0 := HZr2.out.cell (j := 0) (by simp)
          have r1 := HZr2.out.cell (j := 1) (by simp)
          simp only [List.getElem_cons_zero, List.getElem_cons_succ] at o0 o1 r0 r1
          have fz0 := HZr2.out.frozen 0
          have fz1 := HZr2.out.frozen 1
          clear hQ hlt hO2
          go_wp2_with fail
          have g3 := (HZr2.out.set 0 (.slice aa A.length ac)).set 1 (.slice oa Q.length oc)
          have s0 : ((wr.setCell ⟨w.heap.size, 0, none⟩ (.slice aa A.length ac)).setCell ⟨w.heap.size, 1, none⟩ (.slice oa Q.length oc)).cell? ⟨w.heap.size, 0, none⟩ = some (.slice aa A.length ac) := g3.cell (j := 0) (by simp)
          have s1 : ((wr.setCell ⟨w.heap.size, 0, none⟩ (.slice aa A.length ac)).setCell ⟨w.heap.size, 1, none⟩ (.slice oa Q.length oc)).cell? ⟨w.heap.size, 1, none⟩ = some (.slice oa Q.length oc) := g3.cell (j := 1) (by simp)
          refine bodyPost_ret (v := .agg #[.slice aa A.length ac, .slice oa Q.length oc]) (by simp [results, Tryz.results16, go_sem, s0, s1]) rfl ?_
          have hg2 := gr_trans (gr_set wr w.heap.size 0 (.slice aa A.length ac)) (gr_set _ w.heap.size 1 (.slice oa Q.length oc))
          refine ⟨_, rfl, hbw2.out.trans (gr_below hg2 (by omega) (by omega)), ?_⟩
          rw [hfr.out]
          refine ⟨_, _, rfl, ?_, ?_⟩
          · exact (gr_seq hA2.out hg2 (fun b h e => by simp at e; have : (S b ∧ b < w.heap.size) ∨ W.heap.size ≤ b := h; omega)).mono (fun b h _ => by have : (S b ∧ b < w.heap.size) ∨ W.heap.size ≤ b := h; exact this.imp (fun h => h.1) fun h => by omega) fun _ _ _ => rfl
          · exact (gr_seq hO3.out hg2 (fun b h e => by simp at e; have : W.heap.size ≤ b := h; omega)).mono (fun b h _ => .inr (by have : W.heap.size ≤ b := h; omega)) fun _ _ _ => rfl
end Go.Proofs.YtaedgpcmkagpeaaGreat
