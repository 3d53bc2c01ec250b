/-
  Layer 7, the document: has: do clauses have a link?
  Layer 7, the document: has, links and levels joined; right clauses; the clauses of a predicate.
-/
import Derived.Test.YtadbdmnngmlnhaaPgL
import Derived.Test.YtadbdmnngmlnhaaRun
namespace Go.Proofs.Ytadbdmnngmlnhaa
section
open Go Go.RowKit

theorem hasB_yes {l : List Cls} {fr tp : Prd} {neg : Bool} {k j : Nat} (hk : k < l.length) (hj : j < l[k].body.length) (h1 : prT l[k].head = fr) (h2 : hasL tp neg l[k].body[j] = true) : hasB l fr tp neg = true :=
  List.any_eq_true.2 ⟨l[k], List.getElem_mem hk, by rw [decide_eq_true h1, Bool.true_and]; exact List.any_eq_true.2 ⟨_, List.getElem_mem hj, h2⟩⟩
def HasNo (l : List Cls) (fr tp : Prd) (neg : Bool) (k : Nat) : Prop := ∀ i c, i < k → l[i]? = some c → (decide (prT c.head = fr) && c.body.any (hasL tp neg)) = false
theorem hasB_no {l : List Cls} {fr tp : Prd} {neg : Bool} (h : HasNo l fr tp neg l.length) : hasB l fr tp neg = false := List.any_eq_false.2 fun c hc => by
  obtain ⟨i, hi, rfl⟩ := List.mem_iff_getElem.1 hc
  simpa using h i _ hi (List.getElem?_eq_getElem hi)
theorem hasNo_succ {l : List Cls} {fr tp : Prd} {neg : Bool} {k : Nat} (h : HasNo l fr tp neg k) (hk : k < l.length) (hc : (decide (prT l[k].head = fr) && l[k].body.any (hasL tp neg)) = false) : HasNo l fr tp neg (k + 1) := fun i c hi hx => by
  by_cases e : i = k
  · subst e; rw [List.getElem?_eq_getElem hk] at hx; exact Option.some.inj hx ▸ hc
  · exact h i c (by omega) hx

set_option maxHeartbeats 6400000 in
set_option maxRecDepth 100000 in
theorem HasB_spec {S : Nat → Prop} {w : World} {v : Value} {l : List Cls} {fr tp : Prd} {neg : Bool} (hl : Seq clsE S w v l) (hmay : ∀ c ∈ l, mayC c = true) :
    Calls Try.prog 62 #[v, .agg #[.string fr.name, .int .i64 fr.n], .agg #[.string tp.name, .int .i64 tp.n], .bool neg] w (RetV (.bool (hasB l fr tp neg)) w) := by
  obtain ⟨W, hW⟩ : ∃ W, W = (w.alloc (.cells #[.string fr.name, .int .i64 fr.n] 24)).alloc (.cells #[.string tp.name, .int .i64 tp.n] 24) := ⟨_, rfl⟩
  have hbW : Below w.heap.size w W := by rw [hW]; exact Seq.way
  have HR := Lib.hid (show RowA 24 W w.heap.size [.string fr.name, .int .i64 fr.n] by rw [hW]; exact (Row.new w [_, _] _ rfl).alloc _)
  have HR2 := Lib.hid (show RowA 24 W (w.heap.size + 1) [.string tp.name, .int .i64 tp.n] by rw [hW]; exact Row.new (w.alloc _) [_, _] _ (by simp))
  have HBW := Lib.hid hbW
  have HW := Lib.hid hW
  have HL := Lib.hid (hl.at hbW)
  have HMay := Lib.hid hmay
  obtain ⟨aa, ac, rfl, -, -, hll, -⟩ := hl
  clear hW hbW hmay
  go_enter Try.func62, Try.ntmps62
  go_upto_region 1 with fail
  rw [← HW.out]
  have hfL := fun {w' : World} (h : Below W.heap.size W w') => Lib.hid (HL.out.at h)
  have hfR := fun {w' : World} (h : Below W.heap.size W w') => Lib.hid (show w'.cell? ⟨w.heap.size, 0, none⟩ = some (.string fr.name) ∧ w'.cell? ⟨w.heap.size, 1, none⟩ = some (.int .i64 fr.n) ∧ w'.cell? ⟨w.heap.size + 1, 0, none⟩ = some (.string tp.name) ∧ w'.cell? ⟨w.heap.size + 1, 1, none⟩ = some (.int .i64 tp.n) from
    ⟨(HR.out.at h).row.cell (j := 0) (by simp), (HR.out.at h).row.cell (j := 1) (by simp), (HR2.out.at h).row.cell (j := 0) (by simp), (HR2.out.at h).row.cell (j := 1) (by simp)⟩)
  obtain ⟨bf, hbf⟩ : ∃ b, b = w.heap.size := ⟨_, rfl⟩
  obtain ⟨bt, hbt⟩ : ∃ b, b = w.heap.size + 1 := ⟨_, rfl⟩
  have Hbf := Lib.hid hbf
  simp only [← hbt] at hfR ⊢
  simp only [← hbf] at hfR ⊢
  clear hbf hbt
  go_wp2_with fail
  go_loopw [9] (fun i wr => ∃ k : Nat, k ≤ l.length ∧ i = .int .i64 k ∧ Hid (HasNo l fr tp neg k) ∧ Hid (Below W.heap.size W wr)) (fun i _ => l.length - (intOf i).toNat)
  case atStart => exact ⟨0, Nat.zero_le _, rfl, Lib.hid (fun i c h _ => by omega), Lib.hid (Below.refl _ _)⟩
  case round =>
    obtain ⟨k, hk, rfl, hN, hbr⟩ := hrel
    by_cases hlt : k < l.length
    · obtain ⟨_, _, ee, -, -, -, -, x5⟩ := (hfL hbr.out).out
      simp only [Value.slice.injEq, true_and] at ee
      obtain ⟨rfl, rfl⟩ := ee
      obtain ⟨b1, o1, ha, hc, la, lc, rfl, -, l1, c0, c1, hH, hB⟩ := x5.cls hlt
      obtain ⟨m1, m2, m3⟩ := mayC_parts (HMay.out _ (List.getElem_mem hlt))
      have hno := Lib.hid (fun h => hasNo_succ hN.out hlt h)
      have hye0 : ∀ c, c = l[k] → ∀ j (hj : j < c.body.length), prT c.head = fr → hasL tp neg c.body[j] = true → hasB l fr tp neg = true := by
        rintro _ rfl j hj h1 h2
        exact hasB_yes hlt hj h1 h2
      have HH := Lib.hid hH
      have HB := Lib.hid hB
      obtain ⟨c, hcx⟩ : ∃ c, c = l[k] := ⟨_, rfl⟩
      simp only [← hcx] at c0 c1 HH HB hno m1 m2 m3
      have hye := Lib.hid (hye0 c hcx)
      clear hye0
      have hM1 := Lib.hid m1
      have hpos := m2.pos
      have hkI : (k : Int) < (l.length : Int) := by omega
      have hk0 : (0 : Int) ≤ (k : Int) := by omega
      have Kp := fun {W' : World} (h : Below wr.heap.size wr W') => Lib.hid (show W'.cell? ⟨b1, o1 + k * 2, none⟩ = some (.slice ha c.head.length hc) ∧ W'.cell? ⟨b1, o1 + k * 2 + 1, none⟩ = some (.slice la c.body.length lc) from
        ⟨(h.cell (p := ⟨b1, o1 + k * 2, none⟩) l1).trans c0, (h.cell (p := ⟨b1, o1 + k * 2 + 1, none⟩) l1).trans c1⟩)
      have hspec := Lib.hid (fun (W' : World) (h : Below wr.heap.size wr W') => PredR_spec (w := W') (HH.out.at h) (show 0 < c.head.length by omega))
      obtain ⟨P, hP⟩ : ∃ P, P = prT c.head := ⟨_, rfl⟩
      simp only [← hP] at hspec hno hye
      unfold prdV at hspec
      obtain ⟨r0, r1, -, -⟩ := (hfR hbr.out).out
      have Kr := fun {W' : World} (h : Below wr.heap.size wr W') => Lib.hid (show W'.cell? ⟨bf, 0, none⟩ = some (.string fr.name) ∧ W'.cell? ⟨bf, 1, none⟩ = some (.int .i64 fr.n) from ⟨((hfR (below_step h hbr.out)).out).1, ((hfR (below_step h hbr.out)).out).2.1⟩)
      clear hcx x5 hH hB m1 m2 hP
      by_cases hPf : P = fr
      · obtain rfl : fr = P := hPf.symm
        clear hPf
        go_wp2_with fail
        go_region_held3 (fun w' => w'.cell? ⟨bf, 0, none⟩ = some (.string fr.name) ∧ w'.cell? ⟨bf, 1, none⟩ = some (.int .i64 fr.n) ∧ w'.cell? ⟨b1, o1 + k * 2, none⟩ = some (.slice ha c.head.length hc))
          (first | exact ⟨r0, r1, c0⟩ | exact ⟨(Kr Seq.way).out.1, (Kr Seq.way).out.2, (Kp Seq.way).out.1⟩ | go_keep)
          (first | (go_at_call 35; refine (hspec.out _ Seq.way).mono ?_; rintro e y1 ⟨rfl, hb1⟩; have hb1' : Below wr.heap.size wr y1 := below_step hb1 Seq.way))
        have Hy1 := Lib.hid hb1'
        have HBy := Lib.hid (HB.out.at hb1')
        have Kc := fun {W' : World} (h : Below y1.heap.size y1 W') => Lib.hid (Kp (below_step h Hy1.out)).out.2
        have Kb := fun {W' : World} (h : Below y1.heap.size y1 W') => Lib.hid (show W'.cell? ⟨bt, 0, none⟩ = some (.string tp.name) ∧ W'.cell? ⟨bt, 1, none⟩ = some (.int .i64 tp.n) from ((hfR (below_step h (below_step Hy1.out hbr.out))).out).2.2)
        have hfB := fun {w' : World} (h : Below y1.heap.size y1 w') => Lib.hid (HBy.out.at h)
        clear Kp Kr r0 r1 c0 c1 hb1 hb1' hspec
        go_wp2_with fail
        go_loopw [10] (fun i wz => ∃ j : Nat, j ≤ c.body.length ∧ i = .int .i64 j ∧ Hid (∀ i b, i < j → c.body[i]? = some b → hasL tp neg b = false) ∧ Hid (Below y1.heap.size y1 wz)) (fun i _ => c.body.length - (intOf i).toNat)
        case atStart => exact ⟨0, Nat.zero_le _, rfl, Lib.hid (fun i b h _ => by omega), Lib.hid Seq.way⟩
        case round =>
          obtain ⟨j, hj, rfl, hN2, hbz⟩ := hrel
          have d1 := (Kc hbz.out).out
          by_cases hjl : j < c.body.length
          · obtain ⟨_, _, ee, -, -, -, -, x6⟩ := (hfB hbz.out).out
            simp only [Value.slice.injEq, true_and] at ee
            obtain ⟨rfl, rfl⟩ := ee
            obtain ⟨b2, o2, ta, tc, rfl, -, l3, e0, e1, hT⟩ := x6.lit hjl
            have HT := Lib.hid hT
            have hxp := (hM1.out _ (List.getElem_mem hjl)).pos
            have hyes := Lib.hid (fun h => hye.out j hjl trivial h)
            have hsuc := Lib.hid (show hasL tp neg c.body[j] = false → ∀ i b, i < j + 1 → c.body[i]? = some b → hasL tp neg b = false from fun h i b hi hx => by
              by_cases e : i = j
              · subst e; rw [List.getElem?_eq_getElem hjl] at hx; exact Option.some.inj hx ▸ h
              · exact hN2.out i b (by omega) hx)
            have hhl := Lib.hid (show hasL tp neg c.body[j] = (decide (prT c.body[j].t = tp) && (c.body[j].neg == neg)) from rfl)
            obtain ⟨x, hx⟩ : ∃ x, x = c.body[j].t := ⟨_, rfl⟩
            obtain ⟨ng, hng⟩ : ∃ x, x = c.body[j].neg := ⟨_, rfl⟩
            obtain ⟨bb, hbb⟩ : ∃ x, x = hasL tp neg c.body[j] := ⟨_, rfl⟩
            rw [← hx] at e1 HT hxp
            rw [← hng] at e0
            rw [← hx, ← hng, ← hbb] at hhl
            rw [← hbb] at hyes hsuc
            have hjI : (j : Int) < (c.body.length : Int) := by omega
            have hj0 : (0 : Int) ≤ (j : Int) := by omega
            have hspec2 := Lib.hid (fun (W' : World) (h : Below wr.heap.size wr W') => PredR_spec (w := W') (HT.out.at h) (show 0 < x.length by omega))
            obtain ⟨Q, hQ⟩ : ∃ Q, Q = prT x := ⟨_, rfl⟩
            simp only [← hQ] at hspec2 hhl
            unfold prdV at hspec2
            have Kq := fun {W' : World} (h : Below wr.heap.size wr W') => Lib.hid (show W'.cell? ⟨bt, 0, none⟩ = some (.string tp.name) ∧ W'.cell? ⟨bt, 1, none⟩ = some (.int .i64 tp.n) ∧ W'.cell? ⟨b1, o1 + k * 2 + 1, none⟩ = some (.slice (some ⟨b2, o2, none⟩) c.body.length lc) ∧ W'.cell? ⟨b2, o2 + j * 2, none⟩ = some (.bool ng) ∧ W'.cell? ⟨b2, o2 + j * 2 + 1, none⟩ = some (.slice ta x.length tc) from
              ⟨((Kb (below_step h hbz.out)).out).1, ((Kb (below_step h hbz.out)).out).2, (Kc (below_step h hbz.out)).out, (h.cell (p := ⟨b2, o2 + j * 2, none⟩) l3).trans e0, (h.cell (p := ⟨b2, o2 + j * 2 + 1, none⟩) l3).trans e1⟩)
            clear hx hng hbb x6 hT hQ
            by_cases hQt : Q = tp
            · obtain rfl : tp = Q := hQt.symm
              clear hQt
              cases hnn : (ng == neg) with
              | true =>
                have hy := Lib.hid (hyes.out (by rw [hhl.out, hnn]; simp))
                go_wp2_with fail
                go_region_held3 (fun w' => w'.cell? ⟨bt, 0, none⟩ = some (.string tp.name) ∧ w'.cell? ⟨bt, 1, none⟩ = some (.int .i64 tp.n) ∧ w'.cell? ⟨b1, o1 + k * 2 + 1, none⟩ = some (.slice (some ⟨b2, o2, none⟩) c.body.length lc) ∧ w'.cell? ⟨b2, o2 + j * 2, none⟩ = some (.bool ng) ∧ w'.cell? ⟨b2, o2 + j * 2 + 1, none⟩ = some (.slice ta x.length tc))
                  (first | exact (Kq (Below.refl _ _)).out | exact (Kq Seq.way).out | go_keep)
                  (first | (go_at_call 35; refine (hspec2.out _ Seq.way).mono ?_; rintro e z1 ⟨rfl, hb3⟩; have hb3' : Below wr.heap.size wr z1 := below_step hb3 Seq.way))
                have HB3 := Lib.hid (below_step hb3' hbz.out)
                have HB3w := Lib.hid (below_step HB3.out (below_step Hy1.out hbr.out))
                clear hb3 hb3' Kq hspec2
                go_wp2_with fail
                go_ret
                exact ⟨ret_bool hy.out.symm, below_step HB3w.out HBW.out⟩
              | false =>
                have hn2 := Lib.hid (hsuc.out (by rw [hhl.out, hnn]; simp))
                clear hyes hsuc hhl
                go_wp2_with fail
                go_region_held3 (fun w' => w'.cell? ⟨bt, 0, none⟩ = some (.string tp.name) ∧ w'.cell? ⟨bt, 1, none⟩ = some (.int .i64 tp.n) ∧ w'.cell? ⟨b1, o1 + k * 2 + 1, none⟩ = some (.slice (some ⟨b2, o2, none⟩) c.body.length lc) ∧ w'.cell? ⟨b2, o2 + j * 2, none⟩ = some (.bool ng) ∧ w'.cell? ⟨b2, o2 + j * 2 + 1, none⟩ = some (.slice ta x.length tc))
                  (first | exact (Kq (Below.refl _ _)).out | exact (Kq Seq.way).out | go_keep)
                  (first | (go_at_call 35; refine (hspec2.out _ Seq.way).mono ?_; rintro e z1 ⟨rfl, hb3⟩; have hb3' : Below wr.heap.size wr z1 := below_step hb3 Seq.way))
                have HB3 := Lib.hid (below_step hb3' hbz.out)
                have HB3w := Lib.hid (below_step HB3.out (below_step Hy1.out hbr.out))
                clear hb3 hb3' Kq hspec2
                go_wp2_with fail
                go_roundw
                case rel => exact ⟨j + 1, hjl, by go_num, hn2, Lib.hid (below_step Seq.way HB3.out)⟩
                case measure => simp [intOf]; omega

            · have hn2 := Lib.hid (hsuc.out (by rw [hhl.out, decide_eq_false hQt]; rfl))
              rcases prd_ne hQt with q1 | ⟨q1, q2⟩
              all_goals
                clear hyes hsuc hhl hQt
                go_wp2_with fail
                (try simp only [List.append_eq, List.cons_append, List.nil_append])
                refine wp_region_noPanic ?_
                refine wp_region_held_drew (S := fun w' => w'.cell? ⟨bt, 0, none⟩ = some (.string tp.name) ∧ w'.cell? ⟨bt, 1, none⟩ = some (.int .i64 tp.n) ∧ w'.cell? ⟨b1, o1 + k * 2 + 1, none⟩ = some (.slice (some ⟨b2, o2, none⟩) c.body.length lc) ∧ w'.cell? ⟨b2, o2 + j * 2, none⟩ = some (.bool ng) ∧ w'.cell? ⟨b2, o2 + j * 2 + 1, none⟩ = some (.slice ta x.length tc)) (by kernel_rfl) ?_ (fun hHeld => ?_)
                · exact (Kq (Below.drew (Below.refl _ _))).out
                refine wpAnyH_take1 (i := 0) (oi := _) (v := ?_) (by kernel_rfl) rfl (by kernel_rfl) (fun _ _ _ h => h) (Or.inl ⟨by rfl, ?_⟩) (by assumption) ?_
                rotate_left 1
                · intro w hSw; (try dsimp only at hSw); go_simp; (with_reducible rfl)
                (try simp only [Act.put, List.getElem_toArray, List.getElem_cons_zero, List.setIfInBounds_toArray, List.set_cons_zero, List.set_cons_succ])
                refine wpAnyH_take1 (i := 1) (oi := _) (v := ?_) (by kernel_rfl) rfl (by kernel_rfl) (fun _ _ _ h => h) (Or.inl ⟨by rfl, ?_⟩) (by assumption) ?_
                rotate_left 1
                · intro w hSw; (try dsimp only at hSw); go_simp; (with_reducible rfl)
                (try simp only [Act.put, List.getElem_toArray, List.getElem_cons_zero, List.getElem_cons_succ, List.setIfInBounds_toArray, List.set_cons_zero, List.set_cons_succ])
                refine wpAnyH_take1 (i := 2) (oi := _) (v := ?_) (by kernel_rfl) rfl (by kernel_rfl) (fun _ _ _ h => h) (Or.inl ⟨by rfl, ?_⟩) (by assumption) ?_
                rotate_left 1
                · intro w hSw; (try dsimp only at hSw); go_simp; (with_reducible rfl)
                (try simp only [Act.put, List.getElem_toArray, List.getElem_cons_zero, List.getElem_cons_succ, List.setIfInBounds_toArray, List.set_cons_zero, List.set_cons_succ])
                refine wpAnyH_take1 (i := 3) (oi := _) (v := ?_) (by kernel_rfl) rfl (by kernel_rfl) (fun _ _ _ h => h) (Or.inl ⟨by rfl, ?_⟩) (by assumption) ?_
                rotate_left 1
                · intro w hSw; (try dsimp only at hSw); go_simp; (with_reducible rfl)
                (try simp only [Act.put, List.getElem_toArray, List.getElem_cons_zero, List.getElem_cons_succ, List.setIfInBounds_toArray, List.set_cons_zero, List.set_cons_succ])
                refine wpAnyH_take1 (i := 4) (oi := _) (v := ?_) (by kernel_rfl) rfl (by kernel_rfl) (fun _ _ _ h => h) (Or.inl ⟨by rfl, ?_⟩) (by assumption) ?_
                rotate_left 1
                · intro w hSw; (try dsimp only at hSw); go_simp; (with_reducible rfl)
                (try simp only [Act.put, List.getElem_toArray, List.getElem_cons_zero, List.getElem_cons_succ, List.setIfInBounds_toArray, List.set_cons_zero, List.set_cons_succ])
                refine wpAnyH_take1 (i := 5) (oi := _) (v := ?_) (by kernel_rfl) rfl (by kernel_rfl) (fun _ _ _ h => h) (Or.inl ⟨by rfl, ?_⟩) (by assumption) ?_
                rotate_left 1
                · intro w hSw; (try dsimp only at hSw); go_simp; (with_reducible rfl)
                (try simp only [Act.put, List.getElem_toArray, List.getElem_cons_zero, List.getElem_cons_succ, List.setIfInBounds_toArray, List.set_cons_zero, List.set_cons_succ])
                refine wpAnyH_take1 (i := 6) (oi := _) (v := ?_) (by kernel_rfl) rfl (by kernel_rfl) (fun _ _ _ h => h) (Or.inl ⟨by rfl, ?_⟩) (by assumption) ?_
                rotate_left 1
                · intro w hSw; (try dsimp only at hSw); go_simp; (with_reducible rfl)
                (try simp only [Act.put, List.getElem_toArray, List.getElem_cons_zero, List.getElem_cons_succ, List.setIfInBounds_toArray, List.set_cons_zero, List.set_cons_succ])
                refine wpAnyH_take1 (i := 7) (oi := _) (v := ?_) (by kernel_rfl) rfl (by kernel_rfl) (fun _ _ _ h => h) (Or.inl ⟨by rfl, ?_⟩) (by assumption) ?_
                rotate_left 1
                · intro w hSw; (try dsimp only at hSw); go_simp; (with_reducible rfl)
                (try simp only [Act.put, List.getElem_toArray, List.getElem_cons_zero, List.getElem_cons_succ, List.setIfInBounds_toArray, List.set_cons_zero, List.set_cons_succ])
                refine wpAnyH_take1 (i := 8) (oi := _) (v := ?_) (by kernel_rfl) rfl (by kernel_rfl) (fun _ _ _ h => h) (Or.inl ⟨by rfl, ?_⟩) (by assumption) ?_
                rotate_left 1
                · intro w hSw; (try dsimp only at hSw); go_simp; (with_reducible rfl)
                (try simp only [Act.put, List.getElem_toArray, List.getElem_cons_zero, List.getElem_cons_succ, List.setIfInBounds_toArray, List.set_cons_zero, List.set_cons_succ])
                refine wpAnyH_take1 (i := 10) (oi := _) (v := ?_) (by kernel_rfl) rfl (by kernel_rfl) (fun _ _ _ h => h) (Or.inl ⟨by rfl, ?_⟩) (by assumption) ?_
                rotate_left 1
                · intro w hSw; (try dsimp only at hSw); go_simp; (with_reducible rfl)
                (try simp only [Act.put, List.getElem_toArray, List.getElem_cons_zero, List.getElem_cons_succ, List.setIfInBounds_toArray, List.set_cons_zero, List.set_cons_succ])
                refine wpAnyH_one (i := 9) (by kernel_rfl) rfl (by rfl) fun K hK => ?_
                go_simp
                refine (hspec2.out _ Seq.way).mono ?_
                rintro e y3 ⟨rfl, hy3⟩
                have HY3 := below_step hy3 (Seq.way : Below wr.heap.size wr _)
                have zy3 := HY3.size
                (try dsimp only)
                clear hHeld
                refine hK.out _ _ (Kq HY3).out fun hHeld => ?_
                clear hK K
                (try simp only [Act.put, List.getElem_toArray, List.getElem_cons_zero, List.getElem_cons_succ, List.setIfInBounds_toArray, List.set_cons_zero, List.set_cons_succ])
                refine wpAnyH_take1 (i := 11) (oi := _) (v := ?_) (by kernel_rfl) rfl (by kernel_rfl) (fun _ _ _ h => h) (Or.inl ⟨by rfl, ?_⟩) (by assumption) ?_
                rotate_left 1
                · intro w hSw; (try dsimp only at hSw); go_simp; (with_reducible rfl)
                (try simp only [Act.put, List.getElem_toArray, List.getElem_cons_zero, List.getElem_cons_succ, List.setIfInBounds_toArray, List.set_cons_zero, List.set_cons_succ])
                refine wpAnyH_take1 (i := 12) (oi := _) (v := ?_) (by kernel_rfl) rfl (by kernel_rfl) (fun _ _ _ h => h) (Or.inl ⟨by rfl, ?_⟩) (by assumption) ?_
                rotate_left 1
                · intro w hSw; (try dsimp only at hSw); go_simp; (with_reducible rfl)
                (try simp only [Act.put, List.getElem_toArray, List.getElem_cons_zero, List.getElem_cons_succ, List.setIfInBounds_toArray, List.set_cons_zero, List.set_cons_succ])
                refine wpAnyH_take1 (i := 13) (oi := _) (v := undef) (by kernel_rfl) rfl (by kernel_rfl) (fun _ _ _ h => h) (Or.inr ⟨by rfl, rfl⟩) (by assumption) ?_
                (try simp only [Act.put, List.getElem_toArray, List.getElem_cons_zero, List.getElem_cons_succ, List.setIfInBounds_toArray, List.set_cons_zero, List.set_cons_succ])
                refine wpAnyH_take1 (i := 14) (oi := _) (v := undef) (by kernel_rfl) rfl (by kernel_rfl) (fun _ _ _ h => h) (Or.inr ⟨by rfl, rfl⟩) (by assumption) ?_
                (try simp only [Act.put, List.getElem_toArray, List.getElem_cons_zero, List.getElem_cons_succ, List.setIfInBounds_toArray, List.set_cons_zero, List.set_cons_succ])
                refine wpAnyH_take1 (i := 15) (oi := _) (v := undef) (by kernel_rfl) rfl (by kernel_rfl) (fun _ _ _ h => h) (Or.inr ⟨by rfl, rfl⟩) (by assumption) ?_
                (try simp only [Act.put, List.getElem_toArray, List.getElem_cons_zero, List.getElem_cons_succ, List.setIfInBounds_toArray, List.set_cons_zero, List.set_cons_succ])
                refine wpAnyH_take1 (i := 16) (oi := _) (v := undef) (by kernel_rfl) rfl (by kernel_rfl) (fun _ _ _ h => h) (Or.inr ⟨by rfl, rfl⟩) (by assumption) ?_
                (try simp only [Act.put, List.getElem_toArray, List.getElem_cons_zero, List.getElem_cons_succ, List.setIfInBounds_toArray, List.set_cons_zero, List.set_cons_succ])
                refine wpAnyH_take1 (i := 17) (oi := _) (v := undef) (by kernel_rfl) rfl (by kernel_rfl) (fun _ _ _ h => h) (Or.inr ⟨by rfl, rfl⟩) (by assumption) ?_
                (try simp only [Act.put, List.getElem_toArray, List.getElem_cons_zero, List.getElem_cons_succ, List.setIfInBounds_toArray, List.set_cons_zero, List.set_cons_succ])
                refine wpAnyH_take1 (i := 18) (oi := _) (v := undef) (by kernel_rfl) rfl (by kernel_rfl) (fun _ _ _ h => h) (Or.inr ⟨by rfl, rfl⟩) (by assumption) ?_
                (try simp only [Act.put, List.getElem_toArray, List.getElem_cons_zero, List.getElem_cons_succ, List.setIfInBounds_toArray, List.set_cons_zero, List.set_cons_succ])
                refine wpAnyH_take1 (i := 19) (oi := _) (v := undef) (by kernel_rfl) rfl (by kernel_rfl) (fun _ _ _ h => h) (Or.inr ⟨by rfl, rfl⟩) (by assumption) ?_
                (try simp only [Act.put, List.getElem_toArray, List.getElem_cons_zero, List.getElem_cons_succ, List.setIfInBounds_toArray, List.set_cons_zero, List.set_cons_succ])
                refine wpAnyH_take1 (i := 20) (oi := _) (v := undef) (by kernel_rfl) rfl (by kernel_rfl) (fun _ _ _ h => h) (Or.inr ⟨by rfl, rfl⟩) (by assumption) ?_
                (try simp only [Act.put, List.getElem_toArray, List.getElem_cons_zero, List.getElem_cons_succ, List.setIfInBounds_toArray, List.set_cons_zero, List.set_cons_succ])
                refine wpAnyH_take1 (i := 21) (oi := _) (v := undef) (by kernel_rfl) rfl (by kernel_rfl) (fun _ _ _ h => h) (Or.inr ⟨by rfl, rfl⟩) (by assumption) ?_
                (try simp only [Act.put, List.getElem_toArray, List.getElem_cons_zero, List.getElem_cons_succ, List.setIfInBounds_toArray, List.set_cons_zero, List.set_cons_succ])
                refine wpAnyH_take1 (i := 22) (oi := _) (v := undef) (by kernel_rfl) rfl (by kernel_rfl) (fun _ _ _ h => h) (Or.inr ⟨by rfl, rfl⟩) (by assumption) ?_
                (try simp only [Act.put, List.getElem_toArray, List.getElem_cons_zero, List.getElem_cons_succ, List.setIfInBounds_toArray, List.set_cons_zero, List.set_cons_succ])
                refine wpAnyH_take1 (i := 23) (oi := _) (v := undef) (by kernel_rfl) rfl (by kernel_rfl) (fun _ _ _ h => h) (Or.inr ⟨by rfl, rfl⟩) (by assumption) ?_
                (try simp only [Act.put, List.getElem_toArray, List.getElem_cons_zero, List.getElem_cons_succ, List.setIfInBounds_toArray, List.set_cons_zero, List.set_cons_succ])
                refine wpAnyH_take1 (i := 24) (oi := _) (v := ?_) (by kernel_rfl) rfl (by kernel_rfl) (fun _ _ _ h => h) (Or.inl ⟨by rfl, ?_⟩) (by assumption) ?_
                rotate_left 1
                · intro w hSw; (try dsimp only at hSw); go_simp; (with_reducible rfl)
                (try simp only [Act.put, List.getElem_toArray, List.getElem_cons_zero, List.getElem_cons_succ, List.setIfInBounds_toArray, List.set_cons_zero, List.set_cons_succ])
                refine wpAnyH_done (by kernel_rfl) ?_ _
                refine NoPanic.normal ?_
                have hb3' : Below wr.heap.size wr y3 := HY3
                have HB3 := Lib.hid (below_step hb3' hbz.out)
                have HB3w := Lib.hid (below_step HB3.out (below_step Hy1.out hbr.out))
                clear hb3' Kq hspec2
                go_wp2_with fail
                go_roundw
                case rel => exact ⟨j + 1, hjl, by go_num, hn2, Lib.hid (below_step Seq.way HB3.out)⟩
                case measure => simp [intOf]; omega

          · obtain rfl : j = c.body.length := by omega
            have hno' := Lib.hid (hno.out (by
              simp only [decide_true, Bool.true_and]
              refine List.any_eq_false.2 fun b hb => ?_
              obtain ⟨i, hi, rfl⟩ := List.mem_iff_getElem.1 hb
              simpa using hN2.out i _ hi (List.getElem?_eq_getElem hi)))
            have HBz := Lib.hid (below_step hbz.out (below_step Hy1.out hbr.out))
            clear hjl hno hye
            go_wp2_with fail
            go_roundw
            case rel => exact ⟨k + 1, hlt, by go_num, hno', Lib.hid (below_step Seq.way HBz.out)⟩
            case measure => simp [intOf]; omega
      · have hno' := Lib.hid (hno.out (by rw [decide_eq_false hPf]; rfl))
        rcases prd_ne hPf with q1 | ⟨q1, q2⟩
        all_goals
          clear hno hye hPf
          go_wp2_with fail
          go_region_held3 (fun w' => w'.cell? ⟨bf, 0, none⟩ = some (.string fr.name) ∧ w'.cell? ⟨bf, 1, none⟩ = some (.int .i64 fr.n) ∧ w'.cell? ⟨b1, o1 + k * 2, none⟩ = some (.slice ha c.head.length hc))
            (first | exact ⟨r0, r1, c0⟩ | exact ⟨(Kr Seq.way).out.1, (Kr Seq.way).out.2, (Kp Seq.way).out.1⟩ | go_keep)
            (first | (go_at_call 35; refine (hspec.out _ Seq.way).mono ?_; rintro e y1 ⟨rfl, hb1⟩; have hb1' : Below wr.heap.size wr y1 := below_step hb1 Seq.way))
          have HB1 := Lib.hid (below_step hb1' hbr.out)
          clear Kp Kr r0 r1 c0 c1 hb1 hb1' hspec
          go_wp2_with fail
          go_roundw
          case rel => exact ⟨k + 1, hlt, by go_num, hno', Lib.hid (below_step Seq.way HB1.out)⟩
          case measure => simp [intOf]; omega
    · obtain rfl : k = l.length := by omega
      have he := Lib.hid (hasB_no hN.out)
      clear hlt
      go_wp2_with fail
      go_ret
      exact ⟨ret_bool he.out.symm, below_step hbr.out HBW.out⟩
end
section
open Go Go.RowKit

theorem LinksD_spec {S : Nat → Prop} {w : World} {v : Value} {l : List Cls} (hl : Seq clsE S w v l) (hmay : ∀ c ∈ l, mayC c = true) (hlen : l.length ≤ 1000) :
    Calls Try.prog 27 #[v] w (Ret (fun r w' => Seq lnkE (fun b => w.heap.size ≤ b) w' r (linksL l)) w) :=
  LinksR_spec (fun h => HasB_spec h hmay) hl hmay hlen
theorem LevelsD_spec {S : Nat → Prop} {w : World} {v : Value} {l : List Cls} (hl : Seq clsE S w v l) (hmay : ∀ c ∈ l, mayC c = true) (hlen : l.length ≤ 1000) :
    Calls Try.prog 19 #[v] w (RetT (linksL l) (predsL l).length w) :=
  LevelsR_spec (fun h => LinksD_spec h hmay hlen) hl hmay hlen

def SafeTo (l : List Cls) (k : Nat) : Prop := ∀ i c, i < k → l[i]? = some c → safeC c = true
theorem safeTo_succ {l : List Cls} {k : Nat} (h : SafeTo l k) (hk : k < l.length) (hc : safeC l[k] = true) : SafeTo l (k + 1) := fun i c hi hx => by
  by_cases e : i = k
  · subst e; rw [List.getElem?_eq_getElem hk] at hx; exact Option.some.inj hx ▸ hc
  · exact h i c (by omega) hx
theorem rightC_not {l : List Cls} {k : Nat} (hk : k < l.length) (h : safeC l[k] = false) : rightC l = false := by
  unfold rightC
  rw [List.all_eq_false.2 ⟨l[k], List.getElem_mem hk, by simp [h]⟩]; rfl
theorem rightC_end {l : List Cls} (h : SafeTo l l.length) : rightC l = decide (l.length ≤ 64) := by
  unfold rightC
  rw [List.all_eq_true.2 fun c hc => by
    obtain ⟨i, hi, rfl⟩ := List.mem_iff_getElem.1 hc
    exact h i _ hi (List.getElem?_eq_getElem hi), Bool.true_and]

set_option maxHeartbeats 1600000 in
set_option maxRecDepth 100000 in
theorem RightR07_spec {S : Nat → Prop} {w : World} {v : Value} {l : List Cls} (hl : Seq clsE S w v l) :
    Calls Try.prog 16 #[v] w (RetV (.bool (rightC l)) w) := by
  have HL := Lib.hid hl
  obtain ⟨aa, ac, rfl, -, -, hll, -⟩ := hl
  have hfL := fun {w' : World} (h : Below w.heap.size w w') => Lib.hid (HL.out.at h)
  go_enter Try.func16, Try.ntmps16
  go_wp2_with fail
  go_loopw [3] (fun i wr => ∃ k : Nat, k ≤ l.length ∧ i = .int .i64 k ∧ Hid (SafeTo l k) ∧ Hid (Below w.heap.size w wr)) (fun i _ => l.length - (intOf i).toNat)
  case atStart => exact ⟨0, Nat.zero_le _, rfl, Lib.hid (fun i c h _ => by omega), Lib.hid (Below.refl _ _)⟩
  case round =>
    obtain ⟨k, hk, rfl, hA, hbr⟩ := hrel
    by_cases hlt : k < l.length
    · obtain ⟨_, _, ee, -, -, -, -, x5⟩ := (hfL hbr.out).out
      simp only [Value.slice.injEq, true_and] at ee
      obtain ⟨rfl, rfl⟩ := ee
      obtain ⟨b1, o1, ha, hc, la, lc, rfl, -, l1, c0, c1, hH, hB⟩ := x5.cls hlt
      have hy := Lib.hid (fun h => safeTo_succ hA.out hlt h)
      have hn := Lib.hid (fun h => rightC_not hlt h)
      have HV := Lib.hid (show ClsV S wr (.agg #[.slice ha l[k].head.length hc, .slice la l[k].body.length lc]) l[k] from ⟨ha, hc, la, lc, rfl, hH, hB⟩)
      obtain ⟨c, hcx⟩ : ∃ c, c = l[k] := ⟨_, rfl⟩
      rw [← hcx] at c0 c1 hy hn HV
      have hkl : (k : Int) < (l.length : Int) := by omega
      have hk0 : (0 : Int) ≤ (k : Int) := by omega
      clear hcx x5 hH hB
      go_wp2_with fail
      refine (SafeR_spec (HV.out.at Seq.way)).mono ?_
      rintro e y1 ⟨rfl, hb1⟩
      have Hb1 := Lib.hid (below_step (below_step hb1 Seq.way) hbr.out)
      clear hb1 c0 c1
      cases he : safeC c with
      | true =>
        have hy' := Lib.hid (hy.out he)
        clear hy hn he
        go_wp2_with fail
        go_roundw
        case rel => exact ⟨k + 1, hlt, by go_num, hy', Lib.hid (below_step Seq.way Hb1.out)⟩
        case measure => simp [intOf]; omega
      | false =>
        have hn' := Lib.hid (hn.out he)
        clear hy hn he
        go_wp2_with fail
        go_ret
        exact ⟨ret_bool hn'.out.symm, Hb1.out⟩
    · have hkn := Lib.hid (show k = l.length by omega)
      have hkI : ¬ (k : Int) < (l.length : Int) := by omega
      have he := Lib.hid (rightC_end (by rw [← hkn.out]; exact hA.out))
      clear hlt
      go_wp2_with fail
      go_ret
      refine ⟨ret_bool ?_, hbr.out⟩
      rw [he.out]; simp; omega
end
end Go.Proofs.Ytadbdmnngmlnhaa
