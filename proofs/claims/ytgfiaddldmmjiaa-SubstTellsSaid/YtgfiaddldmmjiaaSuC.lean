/-
  Layer 2: the document's put, Apply, Keep.
-/
import Derived.Test.YtgfiaddldmmjiaaSuB
namespace Go.Proofs.Ytgfiaddldmmjiaa
open Go Go.RowKit

theorem putT_step {s : List Bnd} {t : List Cell} {k : Nat} (hk : k < t.length) :
    (t[k].kind = 1 → placeS s t[k].n = -1 → putT s (t.take (k + 1)) = putT s (t.take k) ++ [t[k]]) ∧
    (t[k].kind ≠ 1 → putT s (t.take (k + 1)) = putT s (t.take k) ++ [t[k]]) ∧
    (t[k].kind = 1 → ∀ i (h : i < s.length), placeS s t[k].n = i → putT s (t.take (k + 1)) = putT s (t.take k) ++ s[i].t) := by
  have h0 := putT_snoc (s := s) hk
  refine ⟨fun h1 h2 => ?_, fun h1 => ?_, fun h1 i hi h2 => ?_⟩
  · rw [h0]
    unfold lookS
    rw [if_pos h1]
    rcases placeS_cases s t[k].n with ⟨-, h⟩ | ⟨j, hj, h, -, -⟩
    · rw [h]; rfl
    · omega
  · rw [h0]
    unfold lookS
    rw [if_neg h1]
  · rw [h0]
    unfold lookS
    rw [if_pos h1]
    rcases placeS_cases s t[k].n with ⟨h, -⟩ | ⟨j, hj, h, -, h3⟩
    · omega
    · obtain rfl : i = j := by omega
      rw [h3]; rfl

set_option maxHeartbeats 1600000 in
set_option maxRecDepth 100000 in
theorem put_spec {S T : Nat → Prop} {w : World} {v u : Value} {s : List Bnd} {t : List Cell} (hs : Seq bindE S w v s) (ht : Seq cellE T w u t) (hm : ∀ b ∈ s, b.t.length ≤ 300) (hlen : t.length ≤ 1000000) :
    Calls Try.prog 40 #[v, u] w (Ret (fun r w' => Seq cellE (fun b => w.heap.size ≤ b) w' r (putT s t)) w) := by
  have Hs := Lib.hid hs
  have hmax := Lib.hid (fun t' (h : t'.length ≤ 1000000) => show (putT s t').length ≤ 300000000 by have := putT_len hm (by omega) t'; omega)
  obtain ⟨sa, sc, rfl, -, -, hsl, -, s5⟩ := hs.bnd
  obtain ⟨ta, tc, rfl, -, -, htl, -, t5⟩ := ht
  have hsf := fun {w' : World} (h : Below w.heap.size w w') => Lib.hid (s5.below h fun _ h _ => h.2 : SeqAt bindE _ w' sa s)
  have htf := fun {w' : World} (h : Below w.heap.size w w') => Lib.hid (t5.below h fun _ _ h => h : SeqAt cellE T w' ta t)
  clear s5 t5 hm
  go_enter Try.func40, Try.ntmps40
  go_wp2_with fail
  go_loopw [5, 6] (fun o i wr => ∃ k : Nat, k ≤ t.length ∧ i = .int .i64 k ∧ Own cellE (fun _ => True) w.heap.size 41 wr o (putT s (t.take k)) ∧ Below w.heap.size w wr) (fun _ i _ => t.length - (intOf i).toNat)
  case atStart => exact ⟨0, Nat.zero_le _, rfl, Own.lit0 rfl (Nat.le_refl _) rfl, Seq.way⟩
  case round =>
    obtain ⟨k, hk, rfl, hown, hbel⟩ := hrel
    have hsz : w.heap.size ≤ wr.heap.size := hbel.size
    have Hb := Lib.hid hbel
    obtain ⟨oa, oc, rfl, -, -⟩ := hown.shape
    have Hown := Lib.hid hown
    have hln := Lib.hid (hmax.out (t.take k) (by rw [List.length_take]; omega))
    clear hown
    by_cases hlt : k < t.length
    · have hst := Lib.hid (putT_step (s := s) hlt)
      have hln2 := Lib.hid (hmax.out (t.take (k + 1)) (by rw [List.length_take]; omega))
      obtain ⟨b, off, rfl, -, hb, c0, c1, c2, ok0, ok2, ok3⟩ := (htf hbel).out.cell hlt
      obtain ⟨c, hc⟩ : ∃ c, c = t[k] := ⟨_, rfl⟩
      rw [← hc] at c0 c1 c2 ok0 ok2 ok3 hst
      obtain ⟨L, hL⟩ : ∃ L, L = putT s (t.take k) := ⟨_, rfl⟩
      have HL := Lib.hid hL
      rw [← hL] at hst hln Hown ⊢
      obtain ⟨L2, hL2⟩ : ∃ L, L = putT s (t.take (k + 1)) := ⟨_, rfl⟩
      have HL2 := Lib.hid hL2
      rw [← hL2] at hst hln2
      clear hc htf hL hL2 hmax
      have hkl : (k : Int) < (t.length : Int) := by omega
      have hk0 : (0 : Int) ≤ (k : Int) := by omega
      by_cases hkd : c.kind = 1
      · go_wp2_with fail
        refine (place_spec (n := c.n) (Hs.out.at hbel)).mono ?_
        rintro e _ ⟨rfl, rfl⟩
        rcases placeS_cases s c.n with ⟨hp, -⟩ | ⟨j, hj, hp, -, -⟩
        · have hap := Lib.hid (hst.out.1 hkd hp)
          clear hst
          rw [hp]
          clear hp
          go_wp2_with (at_builtin; refine wpList_app_cellS rfl _ _ 23 rfl Try.underlying23 infoCellS rfl (Hown.out.move Seq.way) rfl (y := c) ok0 ok2 ok3 (by go_simp) (by go_simp) (by go_simp) (by have := hln.out; omega) (by simp; omega) ?_)
          intro ao cap w' hown' hkept
          have H' := Lib.hid hown'
          have K' := Lib.hid (Hb.out.trans (Below.trans Seq.way hkept.below))
          clear hown' hkept
          go_wp2_with fail
          go_roundw
          case rel => exact ⟨k + 1, hlt, by go_num, by rw [← HL2.out, hap.out]; simpa using H'.out, K'.out⟩
          case measure => simp [intOf]; omega
        · have hap := Lib.hid (hst.out.2.2 hkd j hj hp)
          obtain ⟨b2, o2, p2, n2, rfl, -, -, -, e1, -, hX⟩ := (hsf hbel).out.bnd2 hj
          have HX := Lib.hid hX
          have hlX : s[j].t.length ≤ 300000000 := by have := hln2.out; rw [hap.out, List.length_append] at this; omega
          obtain ⟨y, hy⟩ : ∃ y, y = s[j].t := ⟨_, rfl⟩
          rw [← hy] at e1 HX hap hlX
          clear hst hX hy hsf
          rw [hp]
          have hj0 : (0 : Int) ≤ (j : Int) := by omega
          have hj1 : ¬ (j : Int) < 0 := by omega
          have hj2 : (j : Int) < (s.length : Int) := by omega
          clear hp hj
          go_wp2_with (at_builtin; refine wpList_appL (wm := wr) (zs := L2) rfl _ _ 23 rfl Try.underlying23 infoCellS rfl rfl Hown.out (Below.refl _ _) rfl HX.out (fun b h _ => ⟨trivial, .inl h.2⟩) hap.out (by omega) (by have := hln2.out; omega) (by omega) ?_)
          intro ao cap w' hown' hkept
          have H' := Lib.hid hown'
          have K' := Lib.hid (Hb.out.trans hkept.below)
          clear hown' hkept
          go_wp2_with fail
          go_roundw
          case rel => exact ⟨k + 1, hlt, by go_num, by rw [← HL2.out]; exact H'.out, K'.out⟩
          case measure => simp [intOf]; omega
      · have hap := Lib.hid (hst.out.2.1 hkd)
        clear hst
        go_wp2_with (at_builtin; refine wpList_app_cellS rfl _ _ 23 rfl Try.underlying23 infoCellS rfl (Hown.out.move Seq.way) rfl (y := c) ok0 ok2 ok3 (by go_simp) (by go_simp) (by go_simp) (by have := hln.out; omega) (by simp; omega) ?_)
        intro ao cap w' hown' hkept
        have H' := Lib.hid hown'
        have K' := Lib.hid (Hb.out.trans (Below.trans Seq.way hkept.below))
        clear hown' hkept
        go_wp2_with fail
        go_roundw
        case rel => exact ⟨k + 1, hlt, by go_num, by rw [← HL2.out, hap.out]; simpa using H'.out, K'.out⟩
        case measure => simp [intOf]; omega
    · obtain rfl : k = t.length := by omega
      rw [List.take_length] at Hown hln ⊢
      go_wp2_with fail
      go_ret
      exact ⟨_, rfl, Hb.out, (own_cellS (T := fun _ => False) Hown.out).seqB (by have := hln.out; omega) fun b hb h => h.elim False.elim fun h => (Hown.out.blk h).1⟩


/-- What is put in, if it is not too long. -/
def appO (s : List Bnd) (t : List Cell) : Option (List Cell) := if (putT s t).length ≤ 200 then some (putT s t) else none
def appL (o : Option (List Cell)) : List Cell := o.getD []
def RetL {α : Type} (E : Elt α) (S : Nat → Prop) (o : Option (List α)) (w : World) (e : Ending) (w' : World) : Prop :=
  ∃ v, e = .returned (.tuple #[v, .bool o.isSome]) ∧ Below w.heap.size w w' ∧ Seq E S w' v (o.getD [])

set_option maxHeartbeats 1600000 in
theorem ApplyR_spec {S T : Nat → Prop} {w : World} {v u : Value} {s : List Bnd} {t : List Cell} (hs : Seq bindE S w v s) (ht : Seq cellE T w u t) (hm : ∀ b ∈ s, b.t.length ≤ 300) (hlen : t.length ≤ 1000000) :
    Calls Try.prog 18 #[v, u] w (RetL cellE (fun b => w.heap.size ≤ b) (appO s t) w) := by
  have Hs := Lib.hid hs
  have Ht := Lib.hid ht
  have hmax := Lib.hid (show (putT s t).length ≤ 300000000 by have := putT_len hm (by omega) t; omega)
  have Hm := Lib.hid hm
  obtain ⟨sa, sc, rfl, -⟩ := hs
  obtain ⟨ta, tc, rfl, -⟩ := ht
  clear hm
  go_enter Try.func18, Try.ntmps18
  go_wp2_with fail
  refine (put_spec Hs.out Ht.out Hm.out hlen).mono ?_
  rintro e w1 ⟨v1, rfl, hb1, hs1⟩
  have HS := Lib.hid hs1
  obtain ⟨oa, oc, rfl⟩ := hs1.shape
  clear hs1
  by_cases h : (putT s t).length ≤ 200
  · have h' : ¬ (200 : Int) < (putT s t).length := by omega
    have ho := Lib.hid (show appO s t = some (putT s t) from if_pos h)
    clear h
    go_wp2_with fail
    go_ret2
    rw [ho.out]
    exact ⟨_, rfl, hb1, HS.out⟩
  · have h' : (200 : Int) < (putT s t).length := by omega
    have ho := Lib.hid (show appO s t = none from if_neg h)
    clear h
    go_wp2_with fail
    go_ret2
    rw [ho.out]
    exact ⟨_, rfl, hb1, Seq.nil _ _ _⟩

/-! ### Keep -/
def keepS (s : List Bnd) (l : List Int) : List Bnd := fltL (fun b => decide (b.var ∈ l)) s
theorem keepS_len (s : List Bnd) (l : List Int) : (keepS s l).length ≤ s.length := fltL_len _ _

set_option maxHeartbeats 1600000 in
set_option maxRecDepth 100000 in
theorem KeepR_spec {S T : Nat → Prop} {w : World} {v u : Value} {s : List Bnd} {l : List Int} (hs : Seq bindE S w v s) (hl : Seq intE T w u l) (hlen : s.length ≤ 1000000) :
    Calls Try.prog 24 #[v, u] w (Ret (fun r w' => Seq bindE (Fr S w) w' r (keepS s l)) w) := by
  have Hl := Lib.hid hl
  obtain ⟨sa, sc, rfl, -, -, hsl, -, s5⟩ := hs.bnd
  obtain ⟨la, lc, rfl, -⟩ := hl
  have hsf := fun {w' : World} (h : Below w.heap.size w w') => Lib.hid (s5.below h fun _ h _ => h.2 : SeqAt bindE _ w' sa s)
  clear s5
  go_enter Try.func24, Try.ntmps24
  go_wp2_with fail
  go_loopw [5, 6] (fun o i wr => ∃ k : Nat, k ≤ s.length ∧ i = .int .i64 k ∧ Own bindE (fun b => S b ∧ b < w.heap.size) w.heap.size 44 wr o (keepS (s.take k) l) ∧ Below w.heap.size w wr) (fun _ i _ => s.length - (intOf i).toNat)
  case atStart => exact ⟨0, Nat.zero_le _, rfl, Own.lit0 rfl (Nat.le_refl _) rfl, Seq.way⟩
  case round =>
    obtain ⟨k, hk, rfl, hown, hbel⟩ := hrel
    have hsz : w.heap.size ≤ wr.heap.size := hbel.size
    have Hb := Lib.hid hbel
    obtain ⟨oa, oc, rfl, -, -⟩ := hown.shape
    have Hown := Lib.hid hown
    have hln := Lib.hid (show (keepS (s.take k) l).length ≤ 1000000 from Nat.le_trans (keepS_len _ _) (by rw [List.length_take]; omega))
    clear hown
    by_cases hlt : k < s.length
    · have hy := Lib.hid (fun h => fltL_yes (f := fun b : Bnd => decide (b.var ∈ l)) hlt h)
      have hn := Lib.hid (fun h => fltL_no (f := fun b : Bnd => decide (b.var ∈ l)) hlt h)
      obtain ⟨b, off, ta, tc, rfl, -, hb, c0, c1, ok0, hX⟩ := (hsf hbel).out.bnd2 hlt
      have HX := Lib.hid hX
      obtain ⟨⟨xa, xt⟩, hc⟩ : ∃ c, c = s[k] := ⟨_, rfl⟩
      rw [← hc] at c0 c1 ok0 hy hn HX
      dsimp only at c0 c1 ok0 hy hn HX
      obtain ⟨L, hL⟩ : ∃ L, L = keepS (s.take k) l := ⟨_, rfl⟩
      have HL := Lib.hid hL
      rw [← hL] at hln Hown ⊢
      clear hc hsf hL hX
      have hkl : (k : Int) < (s.length : Int) := by omega
      have hk0 : (0 : Int) ≤ (k : Int) := by omega
      go_wp2_with fail
      refine (InB_spec (n := xa) (Hl.out.at hbel)).mono ?_
      rintro e _ ⟨rfl, rfl⟩
      by_cases hi : xa ∈ l
      · have hs' := Lib.hid (show keepS (s.take (k + 1)) l = L ++ [⟨xa, xt⟩] by rw [HL.out]; exact hy.out (by simp [hi]))
        rw [decide_eq_true hi]
        clear hi hy hn
        go_wp2_with (at_builtin; refine wpList_app_bindS (y := ⟨xa, xt⟩) rfl _ _ 22 rfl Try.underlying22 infoBindS rfl (Hown.out.move Seq.way) rfl ok0 (HX.out.at Seq.way) (fun b h _ => ⟨h, fun e => by have := (Hown.out.blk e).1; omega⟩) (by go_simp) (by go_simp) (by have := hln.out; omega) (by simp; omega) ?_)
        intro ao cap w' hown' hkept
        have H' := Lib.hid hown'
        have K' := Lib.hid (Hb.out.trans (Below.trans Seq.way hkept.below))
        clear hown' hkept
        go_wp2_with fail
        go_roundw
        case rel => exact ⟨k + 1, hlt, by go_num, by rw [hs'.out]; simpa using H'.out, K'.out⟩
        case measure => simp [intOf]; omega
      · have hs' := Lib.hid (show keepS (s.take (k + 1)) l = L by rw [HL.out]; exact hn.out (by simp [hi]))
        rw [decide_eq_false hi]
        clear hi hy hn
        go_wp2_with fail
        go_roundw
        case rel => exact ⟨k + 1, hlt, by go_num, by rw [hs'.out]; exact Hown.out, Hb.out⟩
        case measure => simp [intOf]; omega
    · obtain rfl : k = s.length := by omega
      rw [List.take_length] at Hown hln ⊢
      go_wp2_with fail
      go_ret
      exact ⟨_, rfl, Hb.out, Hown.out.seqB (by have := hln.out; omega) fun b hb h => h.elim (fun h => .inl h.1) fun h => .inr (Hown.out.blk h).1⟩
end Go.Proofs.Ytgfiaddldmmjiaa
