/-
  Layer 7, the program: levels.
-/
import Derived.Test.YtadbdmnngmlnhaaPhI
import Derived.Test.YtadbdmnngmlnhaaPhG
import Derived.Test.YtadbdmnngmlnhaaPgL
namespace Go.Proofs.Ytadbdmnngmlnhaa
open Go Go.RowKit

theorem own_of_rowI {S : Nat → Prop} {T : TypeId} {w : World} {B base n : Nat} {xs : List Int} (h : RowI T w B xs) (hn : n = xs.length) (hb : base ≤ B) (hok : ∀ x ∈ xs, IntOK x) (hm : xs.length ≤ maxLen) : Own intE S base T w (.slice (some ⟨B, 0, none⟩) n n) xs := by
  subst hn
  refine FlatE.own (E := intE) (cap := xs.length) h rfl ?_ hb (by show (xs.map _).length = xs.length * 1; simp) (Nat.le_refl _) hm
  refine ⟨by show ((xs.map _).take (xs.length * 1)).length = xs.length * 1; simp, fun k x hk => ⟨[.int .i64 x], ⟨rfl, hok x (List.mem_of_getElem? hk)⟩, fun j hj => ?_⟩⟩
  obtain rfl : j = 0 := by have : j < 1 := hj; omega
  have hkl := (List.getElem?_eq_some_iff.1 hk).1
  show ((xs.map (Value.int .i64)).take (xs.length * 1))[k * 1 + 0]? = _
  rw [List.getElem?_take_of_lt (by omega), List.getElem?_map]
  simp [hk]
theorem levS_raiseP {K : List Lnk} {n k : Nat} {m : List Nat} (hK : RngK K n) (h : LevS K n k m) : LevR K n (raiseP K m) ∧ (raiseP K m = m → LevM K n m) ∧ (raiseP K m ≠ m → k + 1 ≤ sumL (raiseP K m) ∧ 0 < n) := by
  obtain ⟨h1, h2, h3, h4⟩ := raiseP_all hK h.1.1
  refine ⟨⟨h1, h3 h.1.2⟩, fun e => levR_sol h.1 (h4.1 e), fun e => ⟨?_, ?_⟩⟩
  · have := (sumL_le (m := m) (x := raiseP K m) (by rw [h1, h.1.1]) h2).2 fun e2 => e e2.symm
    have := h.2.2
    omega
  · rcases Nat.eq_zero_or_pos n with h5 | h5
    · subst h5
      have e1 := List.eq_nil_of_length_eq_zero h1
      have e2 := List.eq_nil_of_length_eq_zero h.1.1
      exact absurd (e1.trans e2.symm) e
    · exact h5
theorem lev_max {K : List Lnk} {n : Nat} {m : List Nat} (h : LevR K n m) (hn : 0 < n) : (∃ i, i < n ∧ maxTo (natsI m) n = (lv m i : Int)) ∧ ∀ i, (lv m i : Int) ≤ maxTo (natsI m) n := by
  have hl : (natsI m).length = n := by rw [natsI_len, h.1]
  obtain ⟨h1, h2⟩ := maxTo_ge (natsI m) n (by omega)
  have h3 : maxTo (natsI m) n ∈ natsI m := by
    rcases h2 with h2 | h2
    · rw [h2]
      cases he : natsI m with
      | nil => rw [he] at hl; simp at hl; omega
      | cons a l => simp
    · exact h2
  obtain ⟨i, hi, he⟩ := List.mem_iff_getElem.1 h3
  have hin : i < n := by omega
  refine ⟨⟨i, hin, by rw [← he]; exact natsI_lv (by rw [h.1]; exact hin)⟩, fun j => ?_⟩
  by_cases hj : j < n
  · have := h1 _ (List.mem_iff_getElem.2 ⟨j, by rw [List.length_take]; omega, rfl⟩)
    rw [List.getElem_take, natsI_lv (by rw [h.1]; exact hj)] at this
    exact this
  · have h0 : lv m j = 0 := by unfold lv; rw [List.getD_eq_getElem?_getD, List.getElem?_eq_none (by have := h.1; omega)]; rfl
    have h4 := h1 _ (List.mem_iff_getElem.2 ⟨0, by rw [List.length_take]; omega, rfl⟩)
    rw [List.getElem_take, natsI_lv (by rw [h.1]; exact hn)] at h4
    rw [h0]; omega

set_option maxHeartbeats 6400000 in
set_option maxRecDepth 100000 in
theorem LevelsP_spec {S : Nat → Prop} {w : World} {v : Value} {l : List Cls} (hl : Seq clsE S w v l) (hmay : ∀ c ∈ l, mayC c = true) (hlen : l.length ≤ 1000) :
    Calls Try.prog 18 #[v] w (RetT (linksL l) (predsL l).length w) := by
  have HL := Lib.hid hl
  have HMay := Lib.hid hmay
  have hpn : (predsL l).length ≤ 9000 := by have h1 := setL_le (c := cmpP) (allP l); have h2 := allP_len hmay; unfold predsL; omega
  have hkn : (linksL l).length ≤ 8000 := by
    have h1 := setL_le (c := cmpK) (allK l)
    have h2 := toK_len hmay (Nat.le_refl l.length)
    rw [show toK l l.length = allK l by unfold toK allK; rw [List.take_length]] at h2
    unfold linksL; omega
  have Hr := Lib.hid (rngK_links (l := l))
  obtain ⟨aa, ac, rfl, -⟩ := hl
  clear hmay
  go_enter Try.func18, Try.ntmps18
  go_wp2_with fail
  refine (LinksP_spec HL.out HMay.out hlen).mono ?_
  rintro e w1 ⟨v1, rfl, hb1, hs1⟩
  obtain ⟨ka, kc, rfl⟩ := hs1.shape
  have HL1 := Lib.hid (HL.out.at hb1)
  have HB1 := Lib.hid hb1
  have HK1 := Lib.hid hs1
  obtain ⟨K, hK⟩ : ∃ K, K = linksL l := ⟨_, rfl⟩
  rw [← hK] at hkn Hr HK1 ⊢
  have HKe := Lib.hid hK
  clear hs1 hb1 hK
  go_wp2_with fail
  refine (PredsP_spec HL1.out HMay.out hlen).mono ?_
  rintro e w2 ⟨v2, rfl, hb2, hs2⟩
  obtain ⟨pa, pc, rfl⟩ := hs2.shape
  obtain ⟨n, hn⟩ : ∃ n, n = (predsL l).length := ⟨_, rfl⟩
  rw [← hn] at hpn Hr ⊢
  have Hne := Lib.hid hn
  have HK2 := Lib.hid (HK1.out.at hb2)
  have HB2 := Lib.hid (below_step hb2 HB1.out)
  have hzz := Lib.hid (show w1.heap.size ≤ w2.heap.size from hb2.size)
  clear hs2 hb2 hn HL HL1
  have hn0 : (0 : Int) ≤ (n : Int) := by omega
  have hnm : n ≤ 140737488355328 := by omega
  have hmk := run_make_row' (P := Try.prog) 33 3 (.int .i64 0) 8 Try.underlying33 infoInt rfl .i64 .i64 n (by omega) (by omega)
  go_wp2_with fail
  clear hmk
  obtain ⟨W, hW⟩ : ∃ W, W = (w2.alloc (.cells (madeCells #[.int .i64 0] n) 3)).alloc (.cells #[.slice ka K.length kc, .slice (some ⟨w2.heap.size, 0, none⟩) n n] 67) := ⟨_, rfl⟩
  have hr := RowI.made w2 n 3 rfl
  have hnz : n = (natsI (List.replicate n 0)).length := by rw [natsI_len]; simp
  have HO := Lib.hid (show Own intE (fun _ => True) w2.heap.size 3 W (.slice (some ⟨w2.heap.size, 0, none⟩) n n) (natsI (List.replicate n 0)) by
    rw [hW]
    rw [← natsI_zeros] at hr
    exact (own_of_rowI hr hnz (Nat.le_refl _) (fun x hx => by rw [natsI_zeros] at hx; rw [List.eq_of_mem_replicate hx]; exact ⟨by decide, by decide⟩) (by rw [← hnz]; unfold maxLen; omega)).move Seq.way)
  have HbW := Lib.hid (show Below w2.heap.size w2 W by rw [hW]; exact Seq.way)
  have HKW := Lib.hid (show Seq lnkE (fun b => w.heap.size ≤ b ∧ b < w2.heap.size) W (.slice ka K.length kc) K from ((HK2.out.mono (T := fun b => w.heap.size ≤ b) (fun b h _ => h) fun _ _ _ => rfl).bnd).at HbW.out)
  have HRt := Lib.hid (show RowA 67 W (w2.heap.size + 1) [.slice ka K.length kc, .slice (some ⟨w2.heap.size, 0, none⟩) n n] by rw [hW]; exact Row.new _ [_, _] _ (by simp))
  obtain ⟨bg, hbg⟩ : ∃ b, b = w2.heap.size := ⟨_, rfl⟩
  obtain ⟨bt, hbt⟩ : ∃ b, b = w2.heap.size + 1 := ⟨_, rfl⟩
  rw [← hW]
  simp only [← hbt] at HRt ⊢
  simp only [← hbg] at HRt HO ⊢
  have hne : bg ≠ bt := by omega
  have hbw : w.heap.size ≤ bg := by rw [hbg]; exact HB2.out.size
  have hKne := Lib.hid (show ∀ b, (w.heap.size ≤ b ∧ b < w2.heap.size) → (Value.slice (some ⟨bg, 0, none⟩) n n).ownBlock ≠ some b from fun b h e => by
    simp only [Value.ownBlock, Option.some.injEq] at e; omega)
  have hC := fun {W' : World} (h : W.grownBy W' (some bg)) => Lib.hid (show W'.cell? ⟨bt, 0, none⟩ = some (.slice ka K.length kc) ∧ W'.cell? ⟨bt, 1, none⟩ = some (.slice (some ⟨bg, 0, none⟩) n n) from
    ⟨(grown_cell h HRt.out.row.lt (fun e => hne (by simp only [Option.some.injEq] at e; exact e))).trans (HRt.out.row.cell (j := 0) (by simp)), (grown_cell h HRt.out.row.lt (fun e => hne (by simp only [Option.some.injEq] at e; exact e))).trans (HRt.out.row.cell (j := 1) (by simp))⟩)
  have hbt2 := Lib.hid HRt.out.row.lt
  have Hbg := Lib.hid hbg
  have HbwW := Lib.hid (below_step HbW.out HB2.out)
  clear hW hr hnz HK2 HK1 hbg hbt
  go_loopg [] (n * n + 1) (fun gh wr => ∃ (k : Nat) (m : List Nat), Hid (LevS K n k m) ∧ Hid (n * n + 1 - k ≤ gh) ∧ Hid (Own intE (fun _ => True) bg 3 wr (.slice (some ⟨bg, 0, none⟩) n n) (natsI m)) ∧ Hid (W.grownBy wr (some bg)))
  case atStart => exact ⟨0, List.replicate n 0, Lib.hid (levS_zero K n), Lib.hid (by omega), HO, Lib.hid (World.grownBy.refl _ _)⟩
  case round =>
    obtain ⟨k, m, hS, hg, hO, hgr⟩ := hrel
    obtain ⟨e0, e1⟩ := (hC hgr.out).out
    have hzr := hgr.out.size
    go_wp2_with fail
    refine (raise_spec (T := fun b => w.heap.size ≤ b ∧ b < w2.heap.size) (n := n) (B := n) (base := bg) e0 e1 (Nat.lt_of_lt_of_le hbt2.out hzr) hO.out (grown_seq HKW.out hgr.out hKne.out) hKne.out (fun h => hne (by simpa [Value.ownBlock] using h)) Hr.out hS.out.1.1 (by omega) (by omega) hS.out.2.1 (by omega)).mono ?_
    rintro e w5 ⟨rfl, hg5, hO5⟩
    obtain ⟨m', hm'⟩ : ∃ m', m' = raiseP K m := ⟨_, rfl⟩
    obtain ⟨h1, h2, h3⟩ := levS_raiseP Hr.out hS.out
    rw [← hm'] at h1 h2 h3 hO5 ⊢
    have HG5 := Lib.hid (show W.grownBy w5 (some bg) from grown_trans hgr.out hg5)
    have HO5 := Lib.hid hO5
    have HR1 := Lib.hid h1
    have Hk := hg
    clear e0 e1 hO5 hg5 h1 hgr hO hg hm'
    by_cases hmm : m' = m
    · have hd : decide (m' ≠ m) = false := by simp [hmm]
      rw [hd]
      have HM := Lib.hid (h2 hmm)
      have Hmm := Lib.hid hmm
      obtain ⟨e0, e1⟩ := (hC HG5.out).out
      clear hd h2 h3 hmm
      go_wp2_with fail
      go_ret2
      refine ⟨_, true, m, rfl, HbwW.out.trans (grown_below HG5.out hbw HbwW.out.size), .inl ⟨rfl, by rw [← HKe.out, ← Hne.out]; exact HM.out⟩, ?_⟩
      have hmq := HO5.out
      rw [Hmm.out] at hmq
      obtain ⟨vs, q1, q2⟩ := hmq
      exact (show Own intE (fun _ => False) bg 3 w5 _ (natsI m) from ⟨vs, q1, fun k x hx => q2 k x hx⟩).seq (by rw [natsI_len, hS.out.1.1]; omega) fun b _ h => h.elim False.elim fun h => Nat.le_trans hbw h
    · have hd : decide (m' ≠ m) = true := by simp [hmm]
      rw [hd]
      obtain ⟨h4, h5⟩ := h3 hmm
      have H4 := Lib.hid h4
      obtain ⟨hi1, hi2⟩ := lev_max HR1.out h5
      have HI := Lib.hid hi1
      have HI2 := Lib.hid hi2
      have hl' := Lib.hid (show (natsI m').length = n by rw [natsI_len]; exact HR1.out.1)
      have hso := Lib.hid (HO5.out.seqB (T := fun _ => True) (by rw [hl'.out]; omega) fun _ _ _ => trivial)
      have hspec := Lib.hid (fun (W' : World) (h : Below w5.heap.size w5 W') => maxI_spec (w := W') (hso.out.at h) (by rw [hl'.out]; exact h5))
      rw [hl'.out] at hspec
      obtain ⟨q, hq⟩ : ∃ q, q = maxTo (natsI m') n := ⟨_, rfl⟩
      rw [← hq] at hspec HI HI2
      obtain ⟨e0, e1⟩ := (hC HG5.out).out
      have hbt5 : bt < w5.heap.size := Nat.lt_of_lt_of_le hbt2.out HG5.out.size
      have Kq := fun {W' : World} (h : Below w5.heap.size w5 W') => Lib.hid (show W'.cell? ⟨bt, 1, none⟩ = some (.slice (some ⟨bg, 0, none⟩) n n) from (h.cell (p := ⟨bt, 1, none⟩) hbt5).trans e1)
      clear hd h2 h3 h4 hi1 hi2 hq e0 e1 hmm
      go_upto_region 3 with fail
      go_region_held3 (fun w' => w'.cell? ⟨bt, 1, none⟩ = some (.slice (some ⟨bg, 0, none⟩) n n))
        (first | exact (Kq (Below.refl _ _)).out | exact (Kq Seq.way).out | go_keep)
        (first | (go_at_call 47; refine (hspec.out _ Seq.way).mono ?_; rintro e y1 ⟨rfl, rfl⟩))
      have hSe := Lib.hid (show ∀ i, lv m' i ≤ n ↔ (lv m' i : Int) ≤ (n : Int) from fun i => by omega)
      by_cases hqn : (n : Int) < q
      · have hrd := Lib.hid (show Round K by
          obtain ⟨i, hi, he⟩ := HI.out
          exact levR_high Hr.out HR1.out hi (by omega))
        clear HI HI2
        go_wp2_with fail
        go_ret2
        exact ⟨_, false, [], rfl, (HbwW.out.trans (grown_below HG5.out hbw HbwW.out.size)).trans (Seq.way : Below w.heap.size w5 _), .inr ⟨rfl, by rw [← HKe.out]; exact hrd.out, rfl⟩, Seq.nil _ _ _⟩
      · have hs' := Lib.hid (show LevS K n (k + 1) m' from ⟨HR1.out, fun i => by have := HI2.out i; omega, H4.out⟩)
        have hle := Lib.hid (levS_le hs'.out)
        clear HI HI2
        go_wp2_with fail
        go_roundg (n * n + 1 - (k + 1))
        case rel => exact ⟨k + 1, m', hs', Lib.hid (Nat.le_refl _), Lib.hid (HO5.out.move Seq.way), Lib.hid (grown_of HG5.out Seq.way)⟩
        case measure =>
          have h1 := hle.out
          have h2 := Hk.out
          generalize n * n = N at h1 h2 ⊢
          omega
end Go.Proofs.Ytadbdmnngmlnhaa
