/-
  Layer 18, the program: the search in rules.
-/
import Derived.Test.YtdbennmbbmoflaaPrH
import Derived.Deep.DeepCutAuto
namespace Go.Proofs.Ytdbennmbbmoflaa
open Go Go.RowKit

theorem sort_lt {l : List Rule} {x : Rule} (hs : SortR l) {i j : Nat} (hij : i ≤ j) (hj : j < l.length) (h : orderR l[j] x < 0) : orderR (l[i]'(by omega)) x < 0 := by
  rcases Nat.lt_or_eq_of_le hij with h1 | h1
  · exact orderR_trans (List.pairwise_iff_getElem.1 hs i j (by omega) hj h1) h
  · subst h1; exact h

theorem insAt_eq {l : List Rule} {x : Rule} {i : Nat} (hi : i ≤ l.length) (h1 : ∀ t (ht : t < l.length), t < i → orderR l[t] x < 0) (h2 : ∀ t (ht : t < l.length), i ≤ t → ¬ orderR l[t] x < 0) : i = insAt x l := by
  have hle := insAt_le x l
  rcases Nat.lt_trichotomy i (insAt x l) with h | h | h
  · exact absurd (insAt_lt x l i h (by omega)) (h2 i (by omega) (Nat.le_refl _))
  · exact h
  · exact absurd (h1 _ (by omega) h) (insAt_at x l (by omega))

theorem mem_insAt {l : List Rule} {x : Rule} (hs : SortR l) : x ∈ l ↔ ∃ h : insAt x l < l.length, orderR l[insAt x l] x = 0 := by
  constructor
  · intro h
    obtain ⟨j, hj, rfl⟩ := List.mem_iff_getElem.1 h
    have : j = insAt l[j] l := by
      refine insAt_eq (by omega) (fun t ht h => List.pairwise_iff_getElem.1 hs t j ht hj h) fun t ht h => ?_
      rcases Nat.lt_or_eq_of_le h with h1 | h1
      · have := List.pairwise_iff_getElem.1 hs j t hj ht h1
        exact orderR_asymm this
      · subst h1; rw [orderR_self]; omega
    refine ⟨by omega, ?_⟩
    have h2 : l[insAt l[j] l]'(by omega) = l[j] := by congr 1; exact this.symm
    rw [h2]; exact orderR_self _
  · rintro ⟨h, h0⟩
    exact (orderR_zero.1 h0) ▸ List.getElem_mem h

theorem RuleV.mono' {S : Nat → Prop} {w w' : World} {v : Value} {r : Rule} (h : RuleV S w v r) (hb : Below w.heap.size w w') : RuleV S w' v r := by
  obtain ⟨p, n, rfl, h1, h2, h3⟩ := h
  exact ⟨p, n, rfl, h1, h2.at hb, h3.at hb⟩

set_option maxHeartbeats 4000000 in
set_option maxRecDepth 100000 in
theorem search_spec {S T : Nat → Prop} {w : World} {v u : Value} {l : List Rule} {x : Rule} (hl : Seq ruleE S w v l) (hx : RuleV T w u x) (hs : SortR l) (hlen : l.length ≤ 1000000) :
    Calls Try.prog 39 #[v, u, .func (.func 40) #[] #[]] w (RetV (.tuple #[.int .i64 (insAt x l : Nat), .bool (decide (x ∈ l))]) w) := by
  obtain ⟨ao, cap, rfl, h1, h2, h3, h4, h5⟩ := hl
  have HX := Lib.hid hx
  obtain ⟨xp, xn, rfl, hxo, hxp, hxn⟩ := hx
  obtain ⟨xpa, xpc, rfl, -⟩ := hxp
  obtain ⟨xna, xnc, rfl, -⟩ := hxn
  have hmem := Lib.hid (mem_insAt (x := x) hs)
  have Hs := Lib.hid hs
  clear hs
  go_enter Try.func39, Try.ntmps39
  go_wp2_with fail
  go_loopw [9, 10] (fun i j wr => ∃ a b : Nat, a ≤ b ∧ b ≤ l.length ∧ i = .int .i64 a ∧ j = .int .i64 b ∧ Hid ((∀ t (ht : t < l.length), t < a → orderR l[t] x < 0) ∧ (∀ t (ht : t < l.length), b ≤ t → 0 ≤ orderR l[t] x)) ∧
    Below (w.heap.size + 1) (w.alloc (.cells #[.int .i64 x.head, .slice xpa x.pos.length xpc, .slice xna x.neg.length xnc] 46)) wr) (fun i j _ => (intOf j).toNat - (intOf i).toNat)
  case atStart => exact ⟨0, l.length, Nat.zero_le _, Nat.le_refl _, rfl, rfl, Lib.hid ⟨fun t _ h => by omega, fun t ht h => by omega⟩, Seq.way⟩
  case round =>
    obtain ⟨a, b, hab, hbl, rfl, rfl, hno, hbel⟩ := hrel
    have hsz : w.heap.size + 1 ≤ wr.heap.size := by simpa using hbel.size
    have hlt0 : w.heap.size < wr.heap.size := by omega
    have hwr : Below w.heap.size w wr := Below.trans Seq.way (hbel.mono (by omega))
    have x0 : wr.cell? ⟨w.heap.size, 0, none⟩ = some (.int .i64 x.head) := by rw [hbel.cell (by simp)]; go_simp
    have x1 : wr.cell? ⟨w.heap.size, 1, none⟩ = some (.slice xpa x.pos.length xpc) := by rw [hbel.cell (by simp)]; go_simp
    have x2 : wr.cell? ⟨w.heap.size, 2, none⟩ = some (.slice xna x.neg.length xnc) := by rw [hbel.cell (by simp)]; go_simp
    by_cases hlt : a < b
    · obtain ⟨m, hm⟩ : ∃ m, m = (a + b) / 2 := ⟨_, rfl⟩
      have hml : (a + b) / 2 < l.length := by omega
      obtain ⟨rb, ro, pa, pc, na, nc, rfl, -, hbb, g0, g1, g2, hok, hp, hn⟩ := h5.rule hml
      have hi0 : 0 ≤ ((a : Int) + (b : Int)) / 2 := by omega
      have hi2 : (((a : Int) + (b : Int)) / 2).toNat = (a + b) / 2 := by omega
      have hi1 : ((a : Int) + (b : Int)) / 2 < (l.length : Int) := by omega
      have k0 := (hwr.cell (p := ⟨rb, ro + (a + b) / 2 * 3, none⟩) hbb).trans g0
      have k1 := (hwr.cell (p := ⟨rb, ro + (a + b) / 2 * 3 + 1, none⟩) hbb).trans g1
      have k2 := (hwr.cell (p := ⟨rb, ro + (a + b) / 2 * 3 + 2, none⟩) hbb).trans g2
      obtain ⟨y, hy⟩ : ∃ y, y = l[(a + b) / 2] := ⟨_, rfl⟩
      have Hy := Lib.hid hy
      rw [← hy] at k0 k1 k2 hok hp hn
      obtain ⟨c, hc⟩ : ∃ c, c = orderR y x := ⟨_, rfl⟩
      have Hc := Lib.hid hc
      have hsp := fun (W : World) (hW : Below w.heap.size w W) => orderP_spec (w := W) (a := y) (b := x) ⟨_, _, rfl, hok, hp.at hW, hn.at hW⟩ (HX.out.mono' hW)
      rw [← hc] at hsp
      have Hsp := Lib.hid hsp
      have Hm := Lib.hid hm
      have hbb2 : rb < wr.heap.size := by have := hwr.size; omega
      clear hsp hc hy g0 g1 g2 hp hn hm
      go_wp2_with fail
      go_region_held3 (fun w' => w'.cell? ⟨w.heap.size, 0, none⟩ = some (.int .i64 x.head) ∧ w'.cell? ⟨w.heap.size, 1, none⟩ = some (.slice xpa x.pos.length xpc) ∧ w'.cell? ⟨w.heap.size, 2, none⟩ = some (.slice xna x.neg.length xnc) ∧
          w'.cell? ⟨rb, ro + (a + b) / 2 * 3, none⟩ = some (.int .i64 y.head) ∧ w'.cell? ⟨rb, ro + (a + b) / 2 * 3 + 1, none⟩ = some (.slice pa y.pos.length pc) ∧ w'.cell? ⟨rb, ro + (a + b) / 2 * 3 + 2, none⟩ = some (.slice na y.neg.length nc))
        (first | (go_simp; done) | go_keep)
        ((go_at_call 40; refine (Hsp.out _ (Below.drew hwr)).mono ?_; rintro e w3 ⟨rfl, hb3⟩; have hc3 : ∀ b o, b < wr.heap.size → w3.cell? ⟨b, o, none⟩ = wr.cell? ⟨b, o, none⟩ := fun b o h => hb3.cell (p := ⟨b, o, none⟩) h))
      have hw3 : Below wr.heap.size wr w3 := Below.trans Seq.way hb3
      have hwp : wr.heap.size ≤ w3.heap.size := hw3.size
      have hbel3 := hbel.trans (hw3.mono hsz)
      by_cases hcn : c < 0
      · have hnx := Lib.hid (show (∀ t (ht : t < l.length), t < m + 1 → orderR l[t] x < 0) ∧ (∀ t (ht : t < l.length), b ≤ t → 0 ≤ orderR l[t] x) by
          refine ⟨fun t ht h => ?_, hno.out.2⟩
          have h1 := sort_lt (x := x) Hs.out (i := t) (j := (a + b) / 2) (by have := Hm.out; omega) hml (by rw [← Hy.out, ← Hc.out]; exact hcn)
          exact h1)
        have hm1 : m + 1 ≤ b := by have := Hm.out; omega
        have hmi : ((a : Int) + (b : Int)) / 2 + 1 = ((m + 1 : Nat) : Int) := by have := Hm.out; omega
        have Hmi := Lib.hid hmi
        clear hmi
        go_wp2_with fail
        go_roundw
        case rel => exact ⟨m + 1, b, hm1, hbl, by rw [Hmi.out], rfl, hnx, hbel3⟩
        case measure =>
          have := Hmi.out
          simp only [intOf]; omega
      · have hnx := Lib.hid (show (∀ t (ht : t < l.length), t < a → orderR l[t] x < 0) ∧ (∀ t (ht : t < l.length), m ≤ t → 0 ≤ orderR l[t] x) by
          refine ⟨hno.out.1, fun t ht h => ?_⟩
          refine Int.not_lt.1 fun h2 => ?_
          have h1 := sort_lt (x := x) Hs.out (i := (a + b) / 2) (j := t) (by have := Hm.out; omega) ht h2
          rw [← Hy.out, ← Hc.out] at h1
          exact hcn h1)
        have hm1 : m ≤ l.length := by have := Hm.out; omega
        have hm2 : a ≤ m := by have := Hm.out; omega
        have hm3 : m < b := by have := Hm.out; omega
        have hmi : ((a : Int) + (b : Int)) / 2 = (m : Int) := by have := Hm.out; omega
        have Hmi := Lib.hid hmi
        clear hmi
        go_wp2_with fail
        go_roundw
        case rel => exact ⟨a, m, hm2, hm1, rfl, by rw [Hmi.out], hnx, hbel3⟩
        case measure =>
          have := Hmi.out
          simp only [intOf]; omega
    · obtain rfl : a = b := by omega
      have hia : a = insAt x l := insAt_eq hbl hno.out.1 fun t ht h => Int.not_lt.2 (hno.out.2 t ht h)
      have Hia := Lib.hid hia
      clear hia
      by_cases hal : a < l.length
      · obtain ⟨rb, ro, pa, pc, na, nc, rfl, -, hbb, g0, g1, g2, hok, hp, hn⟩ := h5.rule hal
        have k0 := (hwr.cell (p := ⟨rb, ro + a * 3, none⟩) hbb).trans g0
        have k1 := (hwr.cell (p := ⟨rb, ro + a * 3 + 1, none⟩) hbb).trans g1
        have k2 := (hwr.cell (p := ⟨rb, ro + a * 3 + 2, none⟩) hbb).trans g2
        obtain ⟨y, hy⟩ : ∃ y, y = l[a] := ⟨_, rfl⟩
        have Hy := Lib.hid hy
        rw [← hy] at k0 k1 k2 hok hp hn
        obtain ⟨c, hc⟩ : ∃ c, c = orderR y x := ⟨_, rfl⟩
        have Hc := Lib.hid hc
        have hsp := fun (W : World) (hW : Below w.heap.size w W) => orderP_spec (w := W) (a := y) (b := x) ⟨_, _, rfl, hok, hp.at hW, hn.at hW⟩ (HX.out.mono' hW)
        rw [← hc] at hsp
        have Hsp := Lib.hid hsp
        have hbb2 : rb < wr.heap.size := by have := hwr.size; omega
        clear hsp hc hy g0 g1 g2 hp hn
        have hres : (decide (x ∈ l)) = (c == 0) := by
          rw [Bool.eq_iff_iff, decide_eq_true_eq, beq_iff_eq, hmem.out]
          have e := Hia.out
          constructor
          · rintro ⟨h, h0⟩
            rw [Hc.out, Hy.out, ← h0]
            congr 2
          · intro h0
            refine ⟨by omega, ?_⟩
            rw [← h0, Hc.out, Hy.out]
            congr 2; omega
        have Hres := Lib.hid hres
        clear hres
        go_wp2_with fail
        go_region_held3 (fun w' => w'.cell? ⟨w.heap.size, 0, none⟩ = some (.int .i64 x.head) ∧ w'.cell? ⟨w.heap.size, 1, none⟩ = some (.slice xpa x.pos.length xpc) ∧ w'.cell? ⟨w.heap.size, 2, none⟩ = some (.slice xna x.neg.length xnc) ∧
            w'.cell? ⟨rb, ro + a * 3, none⟩ = some (.int .i64 y.head) ∧ w'.cell? ⟨rb, ro + a * 3 + 1, none⟩ = some (.slice pa y.pos.length pc) ∧ w'.cell? ⟨rb, ro + a * 3 + 2, none⟩ = some (.slice na y.neg.length nc))
          (first | (go_simp; done) | go_keep)
          ((go_at_call 40; refine (Hsp.out _ (Below.drew hwr)).mono ?_; rintro e w3 ⟨rfl, hb3⟩; have hc3 : ∀ b o, b < wr.heap.size → w3.cell? ⟨b, o, none⟩ = wr.cell? ⟨b, o, none⟩ := fun b o h => hb3.cell (p := ⟨b, o, none⟩) h))
        go_wp2_with fail
        go_ret2
        have e : Ending.returned (Value.tuple #[.int .i64 (a : Int), .bool (c == 0)]) = Ending.returned (Value.tuple #[.int .i64 (insAt x l : Nat), .bool (decide (x ∈ l))]) := by rw [Hres.out, ← Hia.out]
        exact ⟨e, hwr.trans (Below.trans Seq.way (hb3.mono (by have := hwr.size; simpa using this)))⟩
      · have hres := Lib.hid (show decide (x ∈ l) = false by
          rw [decide_eq_false_iff_not, hmem.out]
          rintro ⟨h, -⟩
          have := Hia.out; omega)
        go_wp2_with fail
        go_quiet (fail)
        go_wp2_with fail
        go_ret2
        have e : Ending.returned (Value.tuple #[.int .i64 (a : Int), .bool false]) = Ending.returned (Value.tuple #[.int .i64 (insAt x l : Nat), .bool (decide (x ∈ l))]) := by rw [hres.out, ← Hia.out]
        exact ⟨e, hwr.trans Seq.way⟩
end Go.Proofs.Ytdbennmbbmoflaa
