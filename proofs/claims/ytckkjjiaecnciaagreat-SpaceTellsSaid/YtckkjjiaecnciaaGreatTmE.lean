/-
  R01: variables, ground terms, parts, depth.
-/
import Derived.Test.YtckkjjiaecnciaaGreatTmD
namespace Go.Proofs.YtckkjjiaecnciaaGreat
open Go Go.RowKit

theorem infoSeq : (Tryz.prog.info? 23).map (fun i => (i.zero, i.size, i.bytes)) = some (some (.slice none 0 0), 1, 24) := by kernel_rfl

/-! ### Variables -/
def varsTo (out : List Int) (c : Cell) : List Int := if c.kind = 1 ∧ ¬ c.n ∈ out then out ++ [c.n] else out
def varsL (t : List Cell) : List Int := t.foldl varsTo []
theorem varsL_snoc {t : List Cell} {k : Nat} (hk : k < t.length) : varsL (t.take (k + 1)) = varsTo (varsL (t.take k)) t[k] := by
  unfold varsL
  rw [List.take_succ_eq_append_getElem hk, List.foldl_append]; rfl
theorem varsTo_len (out : List Int) (c : Cell) : (varsTo out c).length ≤ out.length + 1 := by
  unfold varsTo; split <;> simp
theorem foldl_varsTo_len : ∀ (t : List Cell) (out : List Int), (t.foldl varsTo out).length ≤ out.length + t.length
  | [], _ => by simp
  | c :: t, out => by
    have h1 := foldl_varsTo_len t (varsTo out c)
    have h2 := varsTo_len out c
    simp only [List.foldl_cons, List.length_cons]
    omega
theorem varsL_len (t : List Cell) : (varsL t).length ≤ t.length := by
  have := foldl_varsTo_len t []
  simpa [varsL] using this
theorem varsL_mem {t : List Cell} {x : Int} : x ∈ varsL t ↔ ∃ c ∈ t, c.kind = 1 ∧ c.n = x := by
  have key : ∀ (t : List Cell) (out : List Int), x ∈ t.foldl varsTo out ↔ x ∈ out ∨ ∃ c ∈ t, c.kind = 1 ∧ c.n = x := by
    intro t
    induction t with
    | nil => simp
    | cons c t ih =>
      intro out
      rw [List.foldl_cons, ih]
      have h1 : x ∈ varsTo out c ↔ x ∈ out ∨ (c.kind = 1 ∧ c.n = x) := by
        unfold varsTo
        by_cases hc : c.kind = 1 ∧ ¬ c.n ∈ out
        · rw [if_pos hc, List.mem_append, List.mem_singleton]
          constructor
          · rintro (h | h)
            · exact .inl h
            · exact .inr ⟨hc.1, h.symm⟩
          · rintro (h | h)
            · exact .inl h
            · exact .inr h.2.symm
        · rw [if_neg hc]
          constructor
          · exact .inl
          · rintro (h | ⟨h, e⟩)
            · exact h
            · have : c.n ∈ out := by
                apply Classical.byContradiction
                intro hn; exact hc ⟨h, hn⟩
              exact e ▸ this
      rw [h1]
      simp only [List.mem_cons, exists_eq_or_imp, or_assoc]
  have := key t []
  simpa [varsL] using this
theorem varsL_ground (t : List Cell) : groundT t = decide ((varsL t).length = 0) := by
  rw [Bool.eq_iff_iff, decide_eq_true_iff]
  unfold groundT
  rw [List.all_eq_true]
  constructor
  · intro h
    rw [List.length_eq_zero_iff, List.eq_nil_iff_forall_not_mem]
    intro x hx
    obtain ⟨c, hc, hk, -⟩ := varsL_mem.1 hx
    have := h c hc
    simp [hk] at this
  · intro h c hc
    have h0 : varsL t = [] := List.length_eq_zero_iff.1 h
    have : ¬ c.kind = 1 := fun hk => by
      have := varsL_mem.2 ⟨c, hc, hk, rfl⟩
      rw [h0] at this; simp at this
    simp [this]

set_option maxHeartbeats 800000 in
set_option maxRecDepth 100000 in
theorem VarsR_spec {S : Nat → Prop} {w : World} {v : Value} {t : List Cell} (ht : Seq cellE S w v t) (hlen : t.length ≤ 1000000000) :
    Calls Tryz.prog 54 #[v] w (Ret (fun r w' => Seq intE (fun b => w.heap.size ≤ b) w' r (varsL t)) w) := by
  obtain ⟨ao, cap, rfl, h1, h2, h3, h4, h5⟩ := ht
  go_enter Tryz.func54, Tryz.ntmps54
  go_wp2_with fail
  go_loopw [3, 4] (fun o i wr => ∃ k : Nat, k ≤ t.length ∧ i = .int .i64 k ∧ Own intE (fun _ => False) w.heap.size 3 wr o (varsL (t.take k)) ∧ Below w.heap.size w wr) (fun _ i _ => t.length - (intOf i).toNat)
  case atStart =>
    exact ⟨0, Nat.zero_le _, rfl, Own.lit0 rfl (Nat.le_refl _) rfl, Seq.way⟩
  case round =>
    obtain ⟨k, hk, rfl, hown, hbel⟩ := hrel
    have hsz : w.heap.size ≤ wr.heap.size := hbel.size
    have hln := varsL_len (t.take k)
    simp at hln
    by_cases hlt : k < t.length
    · obtain ⟨b, off, rfl, hS, hb, c0, -, c2, ok0, ok2, -⟩ := (h5.below hbel fun _ _ h => h).cell hlt
      have hsn := Lib.hid (varsL_snoc hlt)
      have hsv : Seq intE (fun _ => True) wr _ (varsL (t.take k)) := hown.seq (by omega) fun _ _ _ => trivial
      obtain ⟨p, n, rfl, -⟩ := id hsv
      have Hsv := Lib.hid hsv
      have Hown := Lib.hid hown
      obtain ⟨c, hc⟩ : ∃ c, c = t[k] := ⟨_, rfl⟩
      rw [← hc] at c0 c2 ok2 hsn
      clear hc h5 hown hsv
      have hkl : (k : Int) < (t.length : Int) := by omega
      have hk0 : (0 : Int) ≤ (k : Int) := by omega
      by_cases hkd : c.kind = 1
      · go_wp2_with fail
        refine (InT_spec Hsv.out).mono ?_
        rintro e _ ⟨rfl, rfl⟩
        by_cases hi : c.n ∈ varsL (t.take k)
        · have hi' : decide (c.n ∈ varsL (t.take k)) = true := decide_eq_true hi
          rw [hi']
          have hs' := Lib.hid (show varsL (t.take (k + 1)) = varsL (t.take k) by rw [hsn.out]; unfold varsTo; rw [if_neg (by simp [hi])])
          clear hi' hi
          go_wp2_with fail
          go_roundw
          case rel => exact ⟨k + 1, hlt, by go_num, by rw [hs'.out]; exact Hown.out, hbel⟩
          case measure => simp [intOf]; omega
        · have hi' : decide (c.n ∈ varsL (t.take k)) = false := decide_eq_false hi
          rw [hi']
          have hs' := Lib.hid (show varsL (t.take (k + 1)) = varsL (t.take k) ++ [c.n] by rw [hsn.out]; unfold varsTo; rw [if_pos ⟨hkd, hi⟩])
          clear hi' hi
          go_wp2_with (at_builtin; refine wpList_app_int rfl _ _ 33 rfl Tryz.underlying33 infoInt rfl Hown.out rfl (y := c.n) Seq.way ok2 ?_ ?_ ?_ ?_)
          · go_simp
          · omega
          · exact hsz
          · intro ao cap w' hown' hkept
            have H' := Lib.hid hown'
            have K' := Lib.hid (hbel.trans (Below.trans Seq.way hkept.below))
            clear hown' hkept
            go_wp2_with fail
            go_roundw
            case rel => exact ⟨k + 1, hlt, by go_num, by rw [hs'.out]; simpa using H'.out, K'.out⟩
            case measure => simp [intOf]; omega
      · have hs' := Lib.hid (show varsL (t.take (k + 1)) = varsL (t.take k) by rw [hsn.out]; unfold varsTo; rw [if_neg (by simp [hkd])])
        have hkd' : (c.kind == 1) = false := by simpa using hkd
        go_wp2_with fail
        go_roundw
        case rel => exact ⟨k + 1, hlt, by go_num, by rw [hs'.out]; exact Hown.out, hbel⟩
        case measure => simp [intOf]; omega
    · obtain rfl : k = t.length := by omega
      go_wp2_with fail
      go_ret
      refine ⟨_, rfl, hbel, ?_⟩
      rw [List.take_length] at hown hln
      exact hown.seq (by omega) fun b _ hb => hb.elim False.elim id

theorem GroundR_spec {S : Nat → Prop} {w : World} {v : Value} {t : List Cell} (ht : Seq cellE S w v t) (hlen : t.length ≤ 1000000000) :
    Calls Tryz.prog 49 #[v] w (RetV (.bool (groundT t)) w) := by
  have Ht := Lib.hid ht
  have hg := Lib.hid (varsL_ground t)
  obtain ⟨ao, cap, rfl, -⟩ := ht
  go_enter Tryz.func49, Tryz.ntmps49
  go_wp2_with fail
  refine (VarsR_spec Ht.out hlen).mono ?_
  rintro e w1 ⟨v1, rfl, hb1, hs1⟩
  obtain ⟨p, n, rfl, -⟩ := hs1
  go_wp2_with fail
  go_ret
  refine ⟨ret_bool ?_, hb1⟩
  rw [hg.out, Bool.eq_iff_iff]
  simp

/-! ### Parts -/
theorem partsC_step {l : List Cell} {k m : Nat} (h : endC 1 l = some m) : partsC (k + 1) l = l.take m :: partsC k (l.drop m) := by
  rw [partsC, h]
theorem partsC_none {l : List Cell} {k : Nat} (h : endC 1 l = none) : partsC k l = [] := by
  cases k with
  | zero => rfl
  | succ k => rw [partsC, h]


/-! ### Depth -/
theorem maxL_snoc (l : List Nat) (a : Nat) : maxL (l ++ [a]) = max (maxL l) a := by
  induction l with
  | nil => simp [maxL]
  | cons b l ih => simp only [List.cons_append, maxL, ih]; omega
theorem maxD_step {ps : List (List Cell)} {k : Nat} (hk : k < ps.length) : maxL ((ps.take (k + 1)).map depthT) = max (maxL ((ps.take k).map depthT)) (depthT ps[k]) := by
  rw [List.take_succ_eq_append_getElem hk, List.map_append, List.map_cons, List.map_nil, maxL_snoc]
theorem maxD_le (ps : List (List Cell)) (k : Nat) (h : ∀ p ∈ ps, p.length ≤ 200) : maxL ((ps.take k).map depthT) ≤ 201 := by
  refine maxL_le fun x hx => ?_
  obtain ⟨p, hp, rfl⟩ := List.mem_map.1 hx
  have h1 := depthT_le p
  have h2 := h p (List.mem_of_mem_take hp)
  omega


end Go.Proofs.YtckkjjiaecnciaaGreat
