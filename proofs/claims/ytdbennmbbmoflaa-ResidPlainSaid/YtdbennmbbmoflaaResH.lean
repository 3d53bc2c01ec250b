/-
  Layer 18's reference: the programs that the statements speak of.
-/
import Derived.Test.YtdbennmbbmoflaaResG
import Derived.Test.YtdbennmbbmoflaaResC
namespace Go.Proofs.Ytdbennmbbmoflaa
open Go Go.RowKit

def atomA (i : Nat) : List Cell := [⟨3, ⟨#[97]⟩, 1⟩, ⟨2, ⟨#[]⟩, (i : Int)⟩]
def atomsTo (k : Nat) : List (List Cell) := (List.range k).map atomA
def manyN (n : Nat) : Nat := n % 12 + 1
def ruleM (m : Nat) (r : Rule) : Rule := ⟨((maskN r.head % m : Nat) : Int), setL r.pos m, setL r.neg m⟩
def rulesM (m : Nat) (l : List Rule) (k : Nat) : List Rule := (l.take k).map (ruleM m)
def madeL (l : List Rule) (n : Nat) : Prog := ⟨atomsTo (manyN n), rulesL (rulesM (manyN n) l (min l.length 24))⟩

theorem atomsTo_succ (k : Nat) : atomsTo (k + 1) = atomsTo k ++ [atomA k] := by simp [atomsTo, List.range_succ]
theorem atomsTo_len (k : Nat) : (atomsTo k).length = k := by simp [atomsTo]
theorem rulesM_succ (m : Nat) (l : List Rule) (k : Nat) (hk : k < l.length) : rulesM m l (k + 1) = rulesM m l k ++ [ruleM m l[k]] := by
  unfold rulesM; rw [List.take_succ_eq_append_getElem hk, List.map_append]; rfl
theorem rulesM_len (m : Nat) (l : List Rule) (k : Nat) : (rulesM m l k).length ≤ k := by unfold rulesM; simp; omega
theorem rulesM_len' (m : Nat) (l : List Rule) (k : Nat) (hk : k ≤ l.length) : (rulesM m l k).length = k := by unfold rulesM; simp; omega
theorem manyN_pos (n : Nat) : 0 < manyN n ∧ manyN n ≤ 12 := by unfold manyN; omega

theorem infoSeq : (Try.prog.info? 51).map (fun i => (i.zero, i.size, i.bytes)) = some (some (.slice none 0 0), 1, 24) := by kernel_rfl

theorem setL_good (l : List Int) (n : Nat) : (∀ x ∈ setL l n, 0 ≤ x ∧ x < n) ∧ (setL l n).length ≤ n := by
  refine ⟨?_, setTo_len l n n⟩
  intro x hx
  unfold setL setTo at hx
  obtain ⟨i, hi, rfl⟩ := List.mem_map.1 hx
  have := List.mem_range.1 (List.mem_filter.1 hi).1
  omega

theorem insR_mem {out : List Rule} {x r : Rule} (h : r ∈ insR out x) : r ∈ out ∨ r = x := by
  unfold insR at h
  have key : ∀ t, r ∈ out.take t ++ [x] ++ out.drop t → r ∈ out ∨ r = x := by
    intro t h
    simp only [List.mem_append, List.mem_singleton] at h
    rcases h with (h | h) | h
    · exact .inl (List.mem_of_mem_take h)
    · exact .inr h
    · exact .inl (List.mem_of_mem_drop h)
  split at h
  · split at h
    · exact .inl h
    · exact key _ h
  · exact key _ h

theorem rulesL_mem {l : List Rule} {r : Rule} (h : r ∈ rulesL l) : r ∈ l := by
  have : ∀ (l out : List Rule), r ∈ l.foldl insR out → r ∈ out ∨ r ∈ l := by
    intro l
    induction l with
    | nil => intro out h; exact .inl h
    | cons x l ih =>
      intro out h
      rcases ih _ h with h | h
      · rcases insR_mem h with h | h
        · exact .inl h
        · exact .inr (by simp [h])
      · exact .inr (by simp [h])
  rcases this l [] h with h | h
  · simp at h
  · exact h

theorem madeL_good (l : List Rule) (n : Nat) : GoodP (madeL l n) := by
  have hm := manyN_pos n
  have hal : (madeL l n).atoms.length = manyN n := atomsTo_len _
  have hrl : (rulesM (manyN n) l (min l.length 24)).length ≤ 24 := Nat.le_trans (rulesM_len _ _ _) (Nat.min_le_right _ _)
  refine ⟨fun r hr => ?_, ?_, by rw [hal]; omega⟩
  · rw [hal]
    have h := rulesL_mem hr
    unfold rulesM at h
    obtain ⟨q, _, rfl⟩ := List.mem_map.1 h
    have h1 := setL_good q.pos (manyN n)
    have h2 := setL_good q.neg (manyN n)
    have h3 : maskN q.head % manyN n < manyN n := Nat.mod_lt _ hm.1
    exact ⟨⟨by simp [ruleM]; omega, by simp [ruleM]; omega⟩, h1.1, h2.1, by have := h1.2; simp only [ruleM]; omega, by have := h2.2; simp only [ruleM]; omega⟩
  · have := rulesL_len (rulesM (manyN n) l (min l.length 24))
    show (rulesL _).length ≤ _
    omega

theorem Own.moveS {α : Type} {E : Elt α} {S : Nat → Prop} {base : Nat} {e : TypeId} {w w' : World} {v : Value} {xs : List α} (h : Own E S base e w v xs)
    (hw : ∀ b, b < w.heap.size → base ≤ b → w'.heap[b]? = w.heap[b]?) (hS : ∀ b, b < w.heap.size → S b → w'.heap[b]? = w.heap[b]?) : Own E S base e w' v xs := by
  obtain ⟨vs, h1, h2⟩ := h
  refine ⟨vs, ownsRow_at h1 fun k hk => hw k (h1.lt k hk).2 (h1.lt k hk).1, fun k x hx => ?_⟩
  obtain ⟨cs, h3, h4⟩ := h2 k x hx
  exact ⟨cs, E.mono h3 (fun _ h _ => h) (fun b hb hlt => hS b hlt hb.1), h4⟩

/-- The two cells of an atom, as the function makes them. -/
theorem atomA_seq {w : World} {B i : Nat} (h : w.heap[B]? = some (.cells #[.int .i64 3, .string ⟨#[97]⟩, .int .i64 1, .int .i64 2, .string ⟨#[]⟩, .int .i64 i] 50 (0, 0))) (hi : i ≤ 1000) :
    Seq cellE (fun b => b = B) w (.slice (some ⟨B, 0, none⟩) 2 2) (atomA i) := by
  refine Row.seq (T := 50) (vs := [.int .i64 3, .string ⟨#[97]⟩, .int .i64 1, .int .i64 2, .string ⟨#[]⟩, .int .i64 i]) h rfl (Nat.le_refl _) (by simp [maxLen]) (by simp [atomA]) rfl ?_
  intro k x hk
  have hk2 : k < 2 := by have := (List.getElem?_eq_some_iff.1 hk).1; simpa [atomA] using this
  rcases (show k = 0 ∨ k = 1 by omega) with rfl | rfl
  · simp [atomA] at hk; subst hk
    refine ⟨_, ⟨rfl, ⟨by decide, by decide⟩, ⟨by decide, by decide⟩, by decide⟩, ?_⟩
    intro j hj
    have : j < 3 := hj
    rcases (show j = 0 ∨ j = 1 ∨ j = 2 by omega) with rfl | rfl | rfl <;> rfl
  · simp [atomA] at hk; subst hk
    refine ⟨_, ⟨rfl, ⟨by simp only; omega, by simp only; omega⟩, ⟨by simp only; omega, by simp only; omega⟩, by show (⟨#[]⟩ : ByteArray).size ≤ _; decide⟩, ?_⟩
    intro j hj
    have : j < 3 := hj
    rcases (show j = 0 ∨ j = 1 ∨ j = 2 by omega) with rfl | rfl | rfl <;> rfl

set_option maxHeartbeats 4000000 in
set_option maxRecDepth 100000 in
theorem Made_spec {S : Nat → Prop} {w : World} {v : Value} {l : List Rule} {n : Nat} (hl : Seq ruleE S w v l) (hn : n < 256) :
    Calls Try.prog 11 #[v, .int .u8 n] w (Ret (fun o w' => ProgV (fun b => w.heap.size ≤ b) w' o (madeL l n)) w) := by
  obtain ⟨la, lc, rfl, hl1, hl2, hl3, hl4, hl5⟩ := hl
  obtain ⟨m, hm⟩ : ∃ m, m = manyN n := ⟨_, rfl⟩
  have hmp := manyN_pos n
  rw [← hm] at hmp
  obtain ⟨hmp, hmp2⟩ := hmp
  have hmany : (1 : Int) + (n : Int) % 12 = (m : Int) := by rw [hm]; unfold manyN; omega
  have hmade := Lib.hid (show madeL l n = ⟨atomsTo m, rulesL (rulesM m l (min l.length 24))⟩ by rw [hm]; rfl)
  clear hm
  obtain ⟨W0, hW0⟩ : ∃ W0, W0 = (w.alloc (.cells #[.slice none 0 0, .slice none 0 0] 30)).alloc (.cells #[.slice none 0 0, .slice none 0 0] 30) := ⟨_, rfl⟩
  have HW := Lib.hid hW0
  have hB0 : Below w.heap.size w W0 := by rw [hW0]; exact Seq.way
  have hs0 : W0.heap.size = w.heap.size + 2 := by rw [hW0]; simp
  have hrow0 : Row 30 W0 w.heap.size [.slice none 0 0, .slice none 0 0] := by rw [hW0]; exact (Row.new w _ _ rfl).alloc _
  have hrow1 : Row 30 W0 (w.heap.size + 1) [.slice none 0 0, .slice none 0 0] := by rw [hW0]; exact Row.new _ _ _ (by simp)
  clear hW0
  have hs0' := Lib.hid hs0
  clear hs0
  go_enter Try.func11, Try.ntmps11
  go_wp2_with fail
  rw [← HW.out]
  clear HW hmany
  go_loopw [7] (fun i wr => ∃ k : Nat, k ≤ m ∧ i = .int .i64 k ∧ Below w.heap.size w wr ∧ w.heap.size + 2 ≤ wr.heap.size ∧ Row 30 wr w.heap.size [.slice none 0 0, .slice none 0 0] ∧
      ∃ ao cap, Row 30 wr (w.heap.size + 1) [.slice ao k cap, .slice none 0 0] ∧ Own (seqE cellE) (fun b => w.heap.size + 2 ≤ b) (w.heap.size + 2) 51 wr (.slice ao k cap) (atomsTo k)) (fun i _ => m - (intOf i).toNat)
  case atStart => exact ⟨0, Nat.zero_le _, rfl, hB0, by have := hs0'.out; omega, hrow0, none, 0, hrow1, Own.nil _ _ _ _ _⟩
  case round =>
    obtain ⟨k, hk, rfl, hbel, hsz, hr0, ao, cap, hr1, hown⟩ := hrel
    have hlen := atomsTo_len k
    by_cases hkm : k < m
    · have c0 := hr1.cell (j := 0) (by simp)
      simp only [List.getElem_cons_zero] at c0
      have f0 := hr1.frozen 0
      have hsn := Lib.hid (atomsTo_succ k)
      have hlen' := Lib.hid hlen
      have hwl : w.heap.size + 1 < wr.heap.size := by omega
      clear hlen
      go_wp2_with (at_builtin; refine wpList_app_seq (E := cellE) (S := fun b => w.heap.size + 2 ≤ b) (Sy := fun b => b = wr.heap.size) (base := w.heap.size + 2) (y := atomA k) rfl _ _ 28 rfl Try.underlying28 infoSeq rfl hown rfl Seq.way (atomA_seq ?_ ?_) ?_ ?_ ?_ ?_ ?_)
      · rw [Below.heap_alloc _ _ _ (by simp)]; exact heap_alloc_new _ _
      · omega
      · intro b h _; subst h; exact ⟨by omega, .inr (Nat.le_refl _)⟩
      · go_simp
      · rw [hlen'.out]; omega
      · omega
      · rw [hlen'.out]
        intro ao2 cap2 w2 hown2 hk2
        clear hown
        have hbb : Below (w.heap.size + 2) wr w2 := (show Below (w.heap.size + 2) wr _ from Seq.way).trans hk2.below
        have hs2 := hbb.size
        have hr02 := hr0.below hbb (by omega)
        have hr12 := hr1.below hbb (by omega)
        have f2 := hr12.frozen 0
        have c2 := hr12.cell (j := 0) (by simp)
        simp only [List.getElem_cons_zero] at c2
        have hlt2 : w.heap.size + 1 < w2.heap.size := by omega
        clear hr1 hr0 hk2
        go_wp2_with fail
        go_roundw
        case rel =>
          refine ⟨k + 1, hkm, by go_num, (hbel.trans (hbb.mono (by omega))).setCell (by simp) _, by simp; omega, hr02.setOther _ (by simp), ao2, cap2, ?_, ?_⟩
          · exact hr12.set 0 _
          · rw [hsn.out]
            exact hown2.moveS (fun b _ hb => Below.heap_setCell _ _ _ _ (by simp; omega)) (fun b _ hb => Below.heap_setCell _ _ _ _ (by simp; omega))
        case measure => simp [intOf]; omega
    · obtain rfl : k = m := by omega
      have hsz' := hsz
      have hlr : 0 < 1 := by omega
      have c0 := hr1.cell (j := 0) (by simp)
      simp only [List.getElem_cons_zero] at c0
      have c1 := hr1.cell (j := 1) (by simp)
      simp only [List.getElem_cons_succ, List.getElem_cons_zero] at c1
      have f0 := hr1.frozen 0
      have f1 := hr1.frozen 1
      have z0 := hr0.cell (j := 0) (by simp)
      simp only [List.getElem_cons_zero] at z0
      have z1 := hr0.cell (j := 1) (by simp)
      simp only [List.getElem_cons_succ, List.getElem_cons_zero] at z1
      have y0 := hr0.frozen 0
      have y1 := hr0.frozen 1
      obtain ⟨W1, hW1⟩ : ∃ W1, W1 = wr := ⟨_, rfl⟩
      subst hW1
      have hownA := hown
      clear hrow0 hrow1 hB0 hs0' hlen hr1 hr0 hown hl1 hl2 hl3 hl4
      go_wp2_with fail
      go_loopw [8, 9] (fun o i wr => ∃ i' : Nat, i' ≤ l.length ∧ i' ≤ 24 ∧ i = .int .i64 i' ∧ Below W1.heap.size W1 wr ∧ ∃ oa oc, o = .slice oa i' oc ∧ Own ruleE (fun b => W1.heap.size ≤ b) W1.heap.size 46 wr (.slice oa i' oc) (rulesM k l i')) (fun _ i _ => l.length - (intOf i).toNat)
      case atStart => exact ⟨0, Nat.zero_le _, by omega, rfl, Seq.way, _, _, rfl, Own.lit0 rfl (by omega) rfl⟩
      case round =>
        obtain ⟨i', hi, hi24, rfl, hbel2, oa, oc, rfl, hownR⟩ := hrel
        have hszr := hbel2.size
        have hlR := rulesM_len' k l i' hi
        by_cases hil : i' < l.length ∧ i' < 24
        · obtain ⟨hil, hi24'⟩ := hil
          have hbw := hbel.trans (hbel2.mono (by omega))
          obtain ⟨b, off, pa, pc, na, nc, rfl, hSb, hb0, p0, p1, p2, hok, hp, hn'⟩ := hl5.rule hil
          have hbW : b < W1.heap.size := by omega
          have hb : b < wr.heap.size := by omega
          have o0 : W1.cell? ⟨b, off + i' * 3, none⟩ = _ := (hbel.cell (p := ⟨b, off + i' * 3, none⟩) hb0).trans p0
          have o1 : W1.cell? ⟨b, off + i' * 3 + 1, none⟩ = _ := (hbel.cell (p := ⟨b, off + i' * 3 + 1, none⟩) hb0).trans p1
          have o2 : W1.cell? ⟨b, off + i' * 3 + 2, none⟩ = _ := (hbel.cell (p := ⟨b, off + i' * 3 + 2, none⟩) hb0).trans p2
          replace p0 : wr.cell? ⟨b, off + i' * 3, none⟩ = _ := (hbel2.cell (p := ⟨b, off + i' * 3, none⟩) hbW).trans o0
          replace p1 : wr.cell? ⟨b, off + i' * 3 + 1, none⟩ = _ := (hbel2.cell (p := ⟨b, off + i' * 3 + 1, none⟩) hbW).trans o1
          replace p2 : wr.cell? ⟨b, off + i' * 3 + 2, none⟩ = _ := (hbel2.cell (p := ⟨b, off + i' * 3 + 2, none⟩) hbW).trans o2
          have hb3' : ∀ w2, Below wr.heap.size wr.drew w2 → Below wr.heap.size wr w2 := fun w2 h => (Below.refl _ wr).drew.trans h
          obtain ⟨y, hy⟩ : ∃ y, y = ruleM k l[i'] := ⟨_, rfl⟩
          obtain ⟨mk, hmk⟩ : ∃ mk, mk = maskN l[i'].head := ⟨_, rfl⟩
          have hyh : y = ⟨(mk : Int) % (k : Int), setL l[i'].pos k, setL l[i'].neg k⟩ := by rw [hy, hmk]; simp [ruleM]
          have hsn := Lib.hid (show rulesM k l (i' + 1) = rulesM k l i' ++ [⟨(mk : Int) % (k : Int), setL l[i'].pos k, setL l[i'].neg k⟩] by rw [rulesM_succ _ _ _ hil, ← hy, hyh])
          have hbt : bits BinOp.and IntKind.i64 l[i'].head 65535 = (mk : Int) := by
            rw [i64_and65535, hmk, maskN, Int.toNat_of_nonneg (by omega)]
          clear hy hyh hmk
          have hmi2 : (0 : Int) ≤ (mk : Int) % (k : Int) := by omega
          have hmi3 : (mk : Int) % (k : Int) < (k : Int) := Int.emod_lt_of_pos _ (by omega)
          have hokm : IntOK ((mk : Int) % (k : Int)) := ⟨by omega, by omega⟩
          have hlRb : (rulesM k l i').length ≤ 1000000000000 := by omega
          have hlR' := Lib.hid hlR
          have hp' := hp.bnd.below hbw fun _ h _ => h.2
          have hn'' := hn'.bnd.below hbw fun _ h _ => h.2
          have hwz : w.heap.size ≤ wr.heap.size := hbw.size
          clear hl5 hlR hp hn'
          have hrem : (mk : Int).tmod (k : Int) = (mk : Int) % (k : Int) := Int.tmod_eq_emod_of_nonneg (by omega)
          have hkz : ((k : Int) == 0) = false := beq_eq_false_iff_ne.2 (by omega)
          have hkz' : (k : Int) ≠ 0 := by omega
          have hkz2 : k ≠ 0 := by omega
          go_wp2_with fail
          go_region_held3 (fun w' => w'.cell? ⟨b, off + i' * 3, none⟩ = some (.int .i64 l[i'].head) ∧ w'.cell? ⟨b, off + i' * 3 + 1, none⟩ = some (.slice pa l[i'].pos.length pc) ∧ w'.cell? ⟨b, off + i' * 3 + 2, none⟩ = some (.slice na l[i'].neg.length nc))
            (first | exact ⟨p0, p1, p2⟩ | exact ⟨q0, q1, q2⟩ | exact ⟨r0, r1, r2⟩ | exact ⟨(World.cell?_alloc_lt _ _ _ hbz2).trans r0, (World.cell?_alloc_lt _ _ _ hbz2).trans r1, (World.cell?_alloc_lt _ _ _ hbz2).trans r2⟩ | exact ⟨x0, x1, x2⟩)
            (first | (have hb2' := hb2; go_at_call 27; refine (set_spec (w := w2) (v := .slice na l[i'].neg.length nc) (hn''.below (hb3' _ hb2) fun _ h _ => Nat.lt_of_lt_of_le h.2 hwz) hmp (by omega)).mono ?_; rintro e w3 ⟨vn, rfl, hb3, hvn⟩; have hs3 : w2.heap.size ≤ w3.heap.size := hb3.size; have hbz2 : b < w3.heap.size := (by omega); have r0 : w3.cell? ⟨b, off + i' * 3, none⟩ = _ := (hb3.cell (p := ⟨b, off + i' * 3, none⟩) hbz).trans q0; have r1 : w3.cell? ⟨b, off + i' * 3 + 1, none⟩ = _ := (hb3.cell (p := ⟨b, off + i' * 3 + 1, none⟩) hbz).trans q1; have r2 : w3.cell? ⟨b, off + i' * 3 + 2, none⟩ = _ := (hb3.cell (p := ⟨b, off + i' * 3 + 2, none⟩) hbz).trans q2; obtain ⟨ya, yc, rfl, -⟩ := id hvn) | (go_at_call 27; refine (set_spec (w := wr.drew) (v := .slice pa l[i'].pos.length pc) (hp'.below Seq.way fun _ h _ => Nat.lt_of_lt_of_le h.2 hwz) hmp (by omega)).mono ?_; rintro e w2 ⟨vp, rfl, hb2, hvp⟩; have hs2 : wr.heap.size ≤ w2.heap.size := hb2.size; have hbz : b < w2.heap.size := (by omega); have q0 : w2.cell? ⟨b, off + i' * 3, none⟩ = _ := (hb2.cell (p := ⟨b, off + i' * 3, none⟩) hb).trans p0; have q1 : w2.cell? ⟨b, off + i' * 3 + 1, none⟩ = _ := (hb2.cell (p := ⟨b, off + i' * 3 + 1, none⟩) hb).trans p1; have q2 : w2.cell? ⟨b, off + i' * 3 + 2, none⟩ = _ := (hb2.cell (p := ⟨b, off + i' * 3 + 2, none⟩) hb).trans p2; obtain ⟨xa, xc, rfl, -⟩ := id hvp) | (refine step_app_rule (S := fun b => W1.heap.size ≤ b) (base := W1.heap.size) (wm := wr) (y := ⟨(mk : Int) % (k : Int), setL l[i'].pos k, setL l[i'].neg k⟩) (Sy := fun b => wr.heap.size ≤ b) rfl _ _ 22 rfl Try.underlying22 infoRule rfl hownR rfl ((hb3' _ hb2).trans (hb3.mono hs2) |>.alloc (Nat.le_trans hs2 hs3) _) hokm ((hvp.below hb3 fun _ _ h => h).mono (fun _ h _ => h) fun b _ hlt => Below.heap_alloc _ _ _ hlt) (hvn.mono (fun _ h _ => Nat.le_trans hs2 h) fun b _ hlt => Below.heap_alloc _ _ _ hlt) (fun b h _ => ⟨Nat.le_trans hszr h, .inr h⟩) (by go_simp) (by go_simp) (by go_simp) hlRb hszr ?_; intro ao8 cap8 w8 hown8 hk8; have hb8 : Below W1.heap.size W1 w8 := hbel2.trans ((((hb3' _ hb2).trans (hb3.mono hs2)).alloc (Nat.le_trans hs2 hs3) _).mono hszr |>.trans hk8.below); have x0 : w8.cell? ⟨b, off + i' * 3, none⟩ = _ := (hb8.cell (p := ⟨b, off + i' * 3, none⟩) hbW).trans o0; have x1 : w8.cell? ⟨b, off + i' * 3 + 1, none⟩ = _ := (hb8.cell (p := ⟨b, off + i' * 3 + 1, none⟩) hbW).trans o1; have x2 : w8.cell? ⟨b, off + i' * 3 + 2, none⟩ = _ := (hb8.cell (p := ⟨b, off + i' * 3 + 2, none⟩) hbW).trans o2))
          go_wp2_with fail
          go_roundw
          case rel =>
            refine ⟨i' + 1, hil, by omega, by go_num, hb8, ao8, cap8, by rw [hlR'.out], ?_⟩
            rw [hsn.out]; rw [hlR'.out] at hown8; exact hown8
          case measure => simp [intOf]; omega
        · have hgd : decide (i' < l.length) = true → decide (i' < 24) = false := by simp; omega
          have hik : i' = min l.length 24 := by omega
          have hlR' := Lib.hid hlR
          have hseq : Seq ruleE (fun b => W1.heap.size ≤ b) wr (.slice oa i' oc) (rulesM k l i') := hownR.seq (by rw [hlR]; omega) fun b _ h => h.elim id id
          have hmd := Lib.hid (show madeL l n = ⟨atomsTo k, rulesL (rulesM k l i')⟩ by rw [hmade.out, hik])
          have hlRb : (rulesM k l i').length ≤ 2000000000 := by omega
          have hW : w.heap.size + 1 < wr.heap.size := by omega
          have hW0' : w.heap.size < wr.heap.size := by omega
          clear hmade hownR hlR hik hl5
          by_cases hil2 : i' < l.length
          all_goals
            have hgd2 : (decide (i' < l.length) = true → decide ((i' : Int) < 24) = false) := by simp; omega
            go_wp2_with (go_at_call 25; refine (RulesL_spec hseq hlRb).mono ?_; rintro e w2 ⟨vr, rfl, hb2, hvr⟩; obtain ⟨xa, xc, rfl, -⟩ := id hvr; have hbF : Below W1.heap.size W1 w2 := hbel2.trans (hb2.mono hszr); have hs2 := hbF.size; have hA1 : w.heap.size + 1 < W1.heap.size := (by omega); have hA0 : w.heap.size < W1.heap.size := (by omega); have hA3 : w.heap.size + 1 < w2.heap.size := (by omega); have hA2 : w.heap.size < w2.heap.size := (by omega); have e0 : w2.cell? ⟨w.heap.size + 1, 0, none⟩ = _ := (hbF.cell (p := ⟨w.heap.size + 1, 0, none⟩) hA1).trans c0; have e1 : w2.cell? ⟨w.heap.size + 1, 1, none⟩ = _ := (hbF.cell (p := ⟨w.heap.size + 1, 1, none⟩) hA1).trans c1; have e2 : w2.frozen? ⟨w.heap.size + 1, 0, none⟩ = _ := (hbF.frozen (p := ⟨w.heap.size + 1, 0, none⟩) hA1).trans f0; have e3 : w2.frozen? ⟨w.heap.size + 1, 1, none⟩ = _ := (hbF.frozen (p := ⟨w.heap.size + 1, 1, none⟩) hA1).trans f1; have e4 : w2.cell? ⟨w.heap.size, 0, none⟩ = _ := (hbF.cell (p := ⟨w.heap.size, 0, none⟩) hA0).trans z0; have e5 : w2.cell? ⟨w.heap.size, 1, none⟩ = _ := (hbF.cell (p := ⟨w.heap.size, 1, none⟩) hA0).trans z1; have e6 : w2.frozen? ⟨w.heap.size, 0, none⟩ = _ := (hbF.frozen (p := ⟨w.heap.size, 0, none⟩) hA0).trans y0; have e7 : w2.frozen? ⟨w.heap.size, 1, none⟩ = _ := (hbF.frozen (p := ⟨w.heap.size, 1, none⟩) hA0).trans y1)
            refine bodyPost_ret (v := .agg #[Value.slice ao k cap, Value.slice xa (rulesL (rulesM k l i')).length xc]) (by simp [results, Try.results11, go_sem, e4, e5]) rfl ⟨_, rfl, ?_, ?_⟩
            · exact (((hbel.trans (hbF.mono (by omega))).setCell (by simp) _).setCell (by simp) _).setCell (by simp) _
            · have hset : ∀ b, w.heap.size + 2 ≤ b → ∀ x y z, (((w2.setCell ⟨w.heap.size + 1, 1, none⟩ x).setCell ⟨w.heap.size, 0, none⟩ y).setCell ⟨w.heap.size, 1, none⟩ z).heap[b]? = w2.heap[b]? := by
                intro b hb x y z
                rw [Below.heap_setCell _ _ _ _ (by simp; omega), Below.heap_setCell _ _ _ _ (by simp; omega), Below.heap_setCell _ _ _ _ (by simp; omega)]
              rw [hmd.out]
              refine ⟨_, _, rfl, (?_ : Seq _ _ _ (.slice ao k cap) _), (?_ : Seq _ _ _ _ _)⟩
              · exact (hownA.seq (T := fun b => w.heap.size + 2 ≤ b) (by rw [atomsTo_len]; omega) fun b _ h => h.elim id id).mono (fun b h _ => Nat.le_trans (by omega) h) fun b h hlt => (hset b h _ _ _).trans (hbF.block b hlt)
              · exact hvr.mono (fun b h _ => by rcases h with h | h <;> omega) fun b h hlt => hset b (by rcases h with h | h <;> omega) _ _ _
end Go.Proofs.Ytdbennmbbmoflaa
