/-
  Layer 14 in plain Lean: rows in order; tables, opened, answered, sorted.
-/
import Derived.Test.YtckkjjiaecnciaaGreatDpB
import Derived.Test.YtckkjjiaecnciaaGreatGsA
namespace Go.Proofs.YtckkjjiaecnciaaGreat
open Go

/-! ### Rows in order -/
theorem cmpT_cmp : Cmp cmpT := ⟨cmpT_zero, cmpT_neg, cmpT_trans⟩
section
variable {α : Type} {c : α → α → Int} {x : α}
theorem lowB_cons_lt {y : α} {l : List α} (h : c y x < 0) : lowC c x (y :: l) = lowC c x l + 1 := by
  unfold lowC
  rw [List.takeWhile_cons, if_pos (by simpa using h), List.length_cons]
theorem lowB_cons_ge {y : α} {l : List α} (h : ¬ c y x < 0) : lowC c x (y :: l) = 0 := by
  unfold lowC
  rw [List.takeWhile_cons, if_neg (by simpa using h)]; rfl
theorem lowB_first : ∀ {l : List α} {k : Nat}, k ≤ l.length → (∀ j (hj : j < l.length), j < k → c l[j] x < 0) → (∀ hk : k < l.length, ¬ c l[k] x < 0) → lowC c x l = k
  | [], k, h, _, _ => by simp at h; subst h; rfl
  | y :: l, 0, _, _, h => lowB_cons_ge (h (by simp))
  | y :: l, k + 1, hk, h1, h2 => by
    rw [lowB_cons_lt (y := y) (show c y x < 0 from h1 0 (by simp) (by omega))]
    congr 1
    exact lowB_first (by simpa using hk) (fun j hj hjk => h1 (j + 1) (by simpa using hj) (by omega)) fun hk => h2 (by simpa using hk)
theorem insB_new (hc : Cmp c) : ∀ {l : List α}, x ∉ l → insC c x l = (l.take (lowC c x l) ++ [x]) ++ l.drop (lowC c x l)
  | [], _ => by simp [insC, lowC]
  | y :: l, h => by
    unfold insC
    by_cases h1 : c y x < 0
    · rw [if_pos h1, lowB_cons_lt h1, List.take_succ_cons, List.drop_succ_cons, insB_new hc (l := l) fun hm => h (List.mem_cons_of_mem _ hm)]
      simp
    · have h2 : c y x ≠ 0 := fun e => h (by rw [hc.zero.1 e]; exact List.mem_cons_self)
      rw [if_neg h1, if_neg h2, lowB_cons_ge h1]; simp
theorem countP_ins (hc : Cmp c) (p : α → Bool) : ∀ {l : List α}, x ∉ l → (insC c x l).countP p = l.countP p + (if p x = true then 1 else 0)
  | [], _ => by
    unfold insC
    rw [List.countP_cons]
  | y :: l, h => by
    unfold insC
    by_cases h1 : c y x < 0
    · rw [if_pos h1, List.countP_cons, List.countP_cons, countP_ins hc p (l := l) fun hm => h (List.mem_cons_of_mem _ hm)]; omega
    · have h2 : c y x ≠ 0 := fun e => h (by rw [hc.zero.1 e]; exact List.mem_cons_self)
      rw [if_neg h1, if_neg h2, List.countP_cons]
theorem countP_set (hc : Cmp c) (p : α → Bool) : ∀ (n : Nat) {l : List α}, l.length = n → l.Nodup → (setL c l).countP p = l.countP p
  | 0, l, h, _ => by
    obtain rfl := List.length_eq_zero_iff.1 h; rfl
  | n + 1, l, h, hn => by
    obtain ⟨m, x, rfl⟩ : ∃ m x, l = m ++ [x] := ⟨l.dropLast, l.getLast (by intro e; simp [e] at h), (List.dropLast_concat_getLast _).symm⟩
    have hn2 := List.nodup_append.1 hn
    rw [setL_snoc, countP_ins hc p (fun hm => hn2.2.2 x ((mem_setL hc).1 hm) x (by simp) rfl), countP_set hc p n (by simpa using h) hn2.1, List.countP_append, List.countP_cons]
    simp
theorem set_length (hc : Cmp c) {l : List α} (h : l.Nodup) : (setL c l).length = l.length := by
  have := countP_set hc (fun _ => true) l.length rfl h
  simpa using this
theorem srt_count (hc : Cmp c) {l : List α} (h : Srt c l) {k : Nat} (hk : k < l.length) : l.countP (fun y => decide (c y l[k] < 0)) = k := by
  have h1 : (l.take k).countP (fun y => decide (c y l[k] < 0)) = k := by
    have : (l.take k).countP (fun y => decide (c y l[k] < 0)) = (l.take k).length := by
      rw [List.countP_eq_length]
      intro y hy
      obtain ⟨j, hj, rfl⟩ := List.mem_iff_getElem.1 hy
      have hj2 : j < k := by rw [List.length_take] at hj; omega
      rw [List.getElem_take, decide_eq_true_eq]
      exact List.pairwise_iff_getElem.1 h _ _ _ _ hj2
    rw [this, List.length_take]; omega
  have h2 : (l.drop k).countP (fun y => decide (c y l[k] < 0)) = 0 := by
    rw [List.countP_eq_zero]
    intro y hy
    obtain ⟨j, hj, rfl⟩ := List.mem_iff_getElem.1 hy
    rw [List.length_drop] at hj
    rw [List.getElem_drop, decide_eq_true_eq]
    rcases Nat.eq_zero_or_pos j with rfl | hp
    · simp [hc.irr]
    · have hkj : k + j < l.length := by omega
      have := List.pairwise_iff_getElem.1 h k (k + j) hk hkj (by omega)
      have h3 := hc.neg l[k] l[k + j]
      omega
  obtain ⟨y, hy⟩ : ∃ y, y = l[k] := ⟨_, rfl⟩
  rw [← hy] at h1 h2 ⊢
  rw [← List.take_append_drop k l, List.countP_append, h1, h2, Nat.add_zero]
theorem nodup_inj {l : List α} (h : l.Nodup) {i j : Nat} (hi : i < l.length) (hj : j < l.length) (e : l[i] = l[j]) : i = j := by
  rcases Nat.lt_trichotomy i j with h1 | h1 | h1
  · exact absurd e (List.pairwise_iff_getElem.1 h i j hi hj h1)
  · exact h1
  · exact absurd e.symm (List.pairwise_iff_getElem.1 h j i hj hi h1)
theorem sub_len [DecidableEq α] : ∀ {l m : List α}, l.Nodup → (∀ x ∈ l, x ∈ m) → l.length ≤ m.length
  | [], _, _, _ => Nat.zero_le _
  | x :: l, m, hn, hs => by
    have hn2 := List.nodup_cons.1 hn
    have h1 := sub_len (l := l) (m := m.erase x) hn2.2 fun y hy => (List.mem_erase_of_ne (fun e => hn2.1 (by rw [← e]; exact hy))).2 (hs y (List.mem_cons_of_mem _ hy))
    have h2 := List.length_erase_of_mem (hs x List.mem_cons_self)
    have h3 := List.length_pos_of_mem (hs x List.mem_cons_self)
    rw [List.length_cons]; omega
theorem sub_all [DecidableEq α] {l m : List α} (hn : l.Nodup) (hs : ∀ x ∈ l, x ∈ m) (hl : m.length ≤ l.length) {x : α} (hx : x ∈ m) : x ∈ l := by
  by_cases h : x ∈ l
  · exact h
  · have := sub_len (l := x :: l) (m := m) (List.nodup_cons.2 ⟨h, hn⟩) fun y hy => by
      rcases List.mem_cons.1 hy with rfl | hy
      · exact hx
      · exact hs y hy
    rw [List.length_cons] at this; omega
/-- A sorted permutation of a row without doubles. -/
theorem sorted_set (hc : Cmp c) {l m : List α} (hp : m.Perm l) (hs : m.Pairwise fun a b => c a b ≤ 0) (hn : l.Nodup) : m = setL c l := by
  have hm : m.Nodup := hp.nodup_iff.2 hn
  refine srt_ext hc ?_ (setL_srt hc l) fun x => by rw [mem_setL hc]; exact hp.mem_iff
  unfold Srt
  refine List.pairwise_iff_getElem.2 fun i j hi hj hij => ?_
  have h1 := List.pairwise_iff_getElem.1 hs i j hi hj hij
  have h2 : m[i] ≠ m[j] := List.pairwise_iff_getElem.1 hm i j hi hj hij
  have h3 : c m[i] m[j] ≠ 0 := fun e => h2 (hc.zero.1 e)
  omega
end

/-! ### Tables -/
structure GoodS (s : List Tab) : Prop where
  len : s.length ≤ 30
  right : ∀ t ∈ s, RightT t.call
  isF : ∀ t ∈ s, isFun t.call = true
  num : ∀ t ∈ s, numT t.call = t.call
  one : ∀ i j (hi : i < s.length) (hj : j < s.length), s[i].call = s[j].call → i = j
  anl : ∀ t ∈ s, t.ans.length ≤ 30
  ans : ∀ t ∈ s, ∀ a ∈ t.ans, RightT a ∧ groundT a = true ∧ matchB t.call a = true
  nodup : ∀ t ∈ s, t.ans.Nodup
theorem nodup_of {α : Type} {l : List α} (h : ∀ k (hk : k < l.length), l[k] ∉ l.take k) : l.Nodup := by
  refine List.pairwise_iff_getElem.2 fun i j hi hj hij e => ?_
  refine h j hj ?_
  rw [← e]
  exact List.mem_iff_getElem.2 ⟨i, by rw [List.length_take]; omega, by rw [List.getElem_take]⟩
theorem good_tab {s : List Tab} (hr : rightTs s = true) {i : Nat} (hi : i < s.length) : atomT' s[i].call = true ∧ numT s[i].call = s[i].call ∧ findTb s s[i].call = (i : Int) ∧
    ∀ k (hk : k < s[i].ans.length), instB s[i].call s[i].ans[k] = true ∧ s[i].ans[k] ∉ s[i].ans.take k := by
  unfold rightTs at hr
  have := allR_iff.1 hr i hi
  unfold tabOK at this
  rw [List.getElem?_eq_getElem hi] at this
  simp only [Bool.and_eq_true, decide_eq_true_eq] at this
  obtain ⟨⟨⟨a1, a2⟩, a3⟩, a4⟩ := this
  refine ⟨a1, a2, a3, fun k hk => ?_⟩
  have := allR_iff.1 a4 k hk
  unfold ansOK at this
  rw [List.getElem?_eq_getElem hk] at this
  simp only [Bool.and_eq_true, Bool.not_eq_true', hasT, decide_eq_false_iff_not] at this
  exact this
theorem good_of {s : List Tab} (hf : fewB s = true) (hr : rightTs s = true) : GoodS s := by
  unfold fewB at hf
  simp only [Bool.and_eq_true, decide_eq_true_eq, List.all_eq_true] at hf
  have hat : ∀ t ∈ s, ∃ i, ∃ hi : i < s.length, s[i] = t := fun t ht => List.mem_iff_getElem.1 ht
  refine ⟨hf.1, fun t ht => ?_, fun t ht => ?_, fun t ht => ?_, fun i j hi hj e => ?_, fun t ht => ?_, fun t ht a ha => ?_, fun t ht => ?_⟩
  · obtain ⟨i, hi, rfl⟩ := hat t ht
    have := (good_tab hr hi).1
    unfold atomT' at this
    rw [Bool.and_eq_true] at this
    exact of_decide_eq_true this.1
  · obtain ⟨i, hi, rfl⟩ := hat t ht
    have := (good_tab hr hi).1
    unfold atomT' at this
    rw [Bool.and_eq_true] at this
    exact this.2
  · obtain ⟨i, hi, rfl⟩ := hat t ht
    exact (good_tab hr hi).2.1
  · have h1 := (good_tab hr hi).2.2.1
    have h2 := (good_tab hr hj).2.2.1
    rw [e, h2] at h1
    omega
  · have := hf.2 t ht
    unfold fewT at this
    simp only [Bool.and_eq_true, decide_eq_true_eq] at this
    exact this.1.2
  · obtain ⟨i, hi, rfl⟩ := hat t ht
    obtain ⟨k, hk, rfl⟩ := List.mem_iff_getElem.1 ha
    have := ((good_tab hr hi).2.2.2 k hk).1
    unfold instB at this
    simp only [Bool.and_eq_true] at this
    exact ⟨of_decide_eq_true this.1.1, this.1.2, this.2⟩
  · obtain ⟨i, hi, rfl⟩ := hat t ht
    exact nodup_of fun k hk => ((good_tab hr hi).2.2.2 k hk).2

def openT (s : List Tab) (c : List Cell) : List Tab × Int := if 0 ≤ findTb s c then (s, findTb s c) else (s ++ [⟨numT c, []⟩], (s.length : Int))
def ansT (s : List Tab) (n : Nat) (t : List Cell) : List Tab := match s[n]? with
  | some x => s.set n ⟨x.call, x.ans ++ [t]⟩
  | none => s
def newA (s : List Tab) (n : Int) (t : List Cell) : Bool := decide (0 ≤ n) && match s[n.toNat]? with
  | some x => !hasT x.ans t
  | none => false
def answerT (s : List Tab) (n : Int) (t : List Cell) : List Tab × Bool := if newA s n t = true then (ansT s n.toNat t, true) else (s, false)
def totalT (s : List Tab) : Nat := (s.map fun t => t.ans.length).sum
theorem totalT_snoc (l : List Tab) (t : Tab) : totalT (l ++ [t]) = totalT l + t.ans.length := by unfold totalT; simp

/-! ### Sorted tables -/
def callsS (s : List Tab) : List (List Cell) := setL cmpT (s.map (·.call))
def callAt (s : List Tab) (i : Nat) : List Cell := (s[i]?.map (·.call)).getD []
def tabS (s : List Tab) (i : Nat) : Tab := ⟨callAt s i, setL cmpT ((s[i]?.map (·.ans)).getD [])⟩
def plcS (s : List Tab) (i : Nat) : Nat := s.countP fun t => decide (cmpT t.call (callAt s i) < 0)
def doneTo (s : List Tab) (k : Nat) : List Tab := (List.range k).foldl (fun o i => o.set (plcS s i) (tabS s i)) (List.replicate s.length ⟨[], []⟩)
def sortTs (s : List Tab) : List Tab := doneTo s s.length
def placesS (s : List Tab) : List Int := (List.range s.length).map fun i => (plcS s i : Int)
theorem callAt_eq {s : List Tab} {i : Nat} (hi : i < s.length) : callAt s i = s[i].call := by unfold callAt; rw [List.getElem?_eq_getElem hi]; rfl
theorem tabS_eq {s : List Tab} {i : Nat} (hi : i < s.length) : tabS s i = ⟨s[i].call, setL cmpT s[i].ans⟩ := by unfold tabS; rw [callAt_eq hi, List.getElem?_eq_getElem hi]; rfl
theorem done_succ (s : List Tab) (k : Nat) : doneTo s (k + 1) = (doneTo s k).set (plcS s k) (tabS s k) := by unfold doneTo; rw [List.range_succ, List.foldl_append]; rfl
theorem done_len (s : List Tab) : ∀ k, (doneTo s k).length = s.length
  | 0 => by simp [doneTo]
  | k + 1 => by rw [done_succ, List.length_set, done_len s k]
section
variable {s : List Tab} (h : GoodS s)
theorem calls_nodup (h : GoodS s) : (s.map (·.call)).Nodup := by
  refine List.pairwise_iff_getElem.2 fun i j hi hj hij e => ?_
  rw [List.length_map] at hi hj
  rw [List.getElem_map, List.getElem_map] at e
  have := h.one i j hi hj e
  omega
theorem calls_len (h : GoodS s) : (callsS s).length = s.length := by unfold callsS; rw [set_length cmpT_cmp (calls_nodup h), List.length_map]
theorem plc_at (h : GoodS s) {i : Nat} (hi : i < s.length) : ∃ hk : plcS s i < (callsS s).length, (callsS s)[plcS s i] = s[i].call := by
  have hm : s[i].call ∈ callsS s := (mem_setL cmpT_cmp).2 (List.mem_map.2 ⟨_, List.getElem_mem hi, rfl⟩)
  obtain ⟨k, hk, e⟩ := List.mem_iff_getElem.1 hm
  have h1 := srt_count cmpT_cmp (setL_srt cmpT_cmp (s.map (·.call))) hk
  have h2 : plcS s i = k := by
    rw [← h1]
    show s.countP _ = (callsS s).countP fun y => decide (cmpT y (callsS s)[k] < 0)
    rw [e]
    unfold callsS
    rw [countP_set cmpT_cmp _ _ rfl (calls_nodup h), List.countP_map]
    refine List.countP_congr fun t _ => ?_
    rw [callAt_eq hi]; rfl
  subst h2
  exact ⟨hk, e⟩
theorem plc_lt (h : GoodS s) {i : Nat} (hi : i < s.length) : plcS s i < s.length := by
  obtain ⟨hk, -⟩ := plc_at h hi
  rw [calls_len h] at hk; exact hk
theorem plc_inj (h : GoodS s) {i j : Nat} (hi : i < s.length) (hj : j < s.length) (e : plcS s i = plcS s j) : i = j := by
  obtain ⟨h1, e1⟩ := plc_at h hi
  obtain ⟨h2, e2⟩ := plc_at h hj
  refine h.one i j hi hj ?_
  rw [← e1, ← e2]; congr 1
theorem plc_surj (h : GoodS s) {p : Nat} (hp : p < s.length) : ∃ i, i < s.length ∧ plcS s i = p := by
  have hp2 : p < (callsS s).length := by rw [calls_len h]; exact hp
  obtain ⟨t, ht, e⟩ := List.mem_map.1 ((mem_setL cmpT_cmp).1 (List.getElem_mem hp2 : (callsS s)[p] ∈ setL cmpT (s.map (·.call))))
  obtain ⟨i, hi, rfl⟩ := List.mem_iff_getElem.1 ht
  refine ⟨i, hi, ?_⟩
  obtain ⟨h1, e1⟩ := plc_at h hi
  have hn := (setL_srt cmpT_cmp (s.map (·.call))).nodup cmpT_cmp
  exact nodup_inj (l := callsS s) hn h1 hp2 (by rw [e1, ← e])
theorem done_at (h : GoodS s) {i : Nat} (hi : i < s.length) : ∀ k, k ≤ s.length → i < k → (doneTo s k)[plcS s i]? = some (tabS s i)
  | k + 1, hk, hik => by
    rw [done_succ, List.getElem?_set]
    by_cases e : plcS s k = plcS s i
    · rw [if_pos e, if_pos (by rw [done_len]; exact plc_lt h (by omega))]
      obtain rfl := plc_inj h (by omega) hi e
      rfl
    · rw [if_neg e]
      rcases Nat.lt_or_ge i k with h1 | h1
      · exact done_at h hi k (by omega) h1
      · obtain rfl : i = k := by omega
        exact absurd rfl e
theorem sort_len (s : List Tab) : (sortTs s).length = s.length := done_len s _
theorem sort_at (h : GoodS s) {i : Nat} (hi : i < s.length) : ∃ hp : plcS s i < (sortTs s).length, (sortTs s)[plcS s i] = ⟨s[i].call, setL cmpT s[i].ans⟩ := by
  have h1 := done_at h hi s.length (Nat.le_refl _) hi
  rw [tabS_eq hi] at h1
  exact List.getElem?_eq_some_iff.1 h1
theorem sort_call (h : GoodS s) : (sortTs s).map (·.call) = callsS s := by
  apply List.ext_getElem
  · rw [List.length_map, sort_len, calls_len h]
  · intro p h1 h2
    rw [List.length_map, sort_len] at h1
    obtain ⟨i, hi, rfl⟩ := plc_surj h h1
    obtain ⟨hp, e⟩ := sort_at h hi
    obtain ⟨hk, e2⟩ := plc_at h hi
    rw [List.getElem_map, e, e2]
/-- What is put down in order of the calls. -/
theorem sort_of (h : GoodS s) {o : List Nat} (ho : ∀ i ∈ o, i < s.length) (hl : o.length = s.length) (hs : o.Pairwise fun i j => cmpT (callAt s i) (callAt s j) < 0) :
    o.map (tabS s) = sortTs s ∧ ∀ k (hk : k < o.length), plcS s o[k] = k := by
  have hc : o.map (callAt s) = callsS s := by
    have hs2 : Srt cmpT (o.map (callAt s)) := by unfold Srt; rw [List.pairwise_map]; exact hs
    have hsub : ∀ x ∈ o.map (callAt s), x ∈ callsS s := fun x hx => by
      obtain ⟨i, hi, rfl⟩ := List.mem_map.1 hx
      rw [callAt_eq (ho i hi)]
      exact (mem_setL cmpT_cmp).2 (List.mem_map.2 ⟨_, List.getElem_mem (ho i hi), rfl⟩)
    have hn := hs2.nodup cmpT_cmp
    exact srt_ext cmpT_cmp hs2 (setL_srt cmpT_cmp _) fun x => ⟨hsub x, fun hx => sub_all hn hsub (by rw [calls_len h, List.length_map, hl]; exact Nat.le_refl _) hx⟩
  have hp : ∀ k (hk : k < o.length), plcS s o[k] = k := fun k hk => by
    have hi := ho _ (List.getElem_mem hk)
    obtain ⟨h1, e1⟩ := plc_at h hi
    have hk2 : k < (callsS s).length := by rw [← hc, List.length_map]; exact hk
    have e2 : (callsS s)[k] = s[o[k]].call := by
      have : (callsS s)[k]? = some (callAt s o[k]) := by rw [← hc, List.getElem?_map, List.getElem?_eq_getElem hk]; rfl
      rw [List.getElem?_eq_getElem hk2] at this
      rw [Option.some.inj this, callAt_eq hi]
    have hn := (setL_srt cmpT_cmp (s.map (·.call))).nodup cmpT_cmp
    exact nodup_inj (l := callsS s) hn h1 hk2 (by rw [e1, e2])
  refine ⟨?_, hp⟩
  apply List.ext_getElem
  · rw [List.length_map, hl, sort_len]
  · intro k h1 h2
    have hk : k < o.length := by simpa using h1
    have hi := ho _ (List.getElem_mem hk)
    obtain ⟨h3, e⟩ := sort_at h hi
    rw [List.getElem_map, tabS_eq hi, ← e]
    congr 1
    exact hp k hk
end
end Go.Proofs.YtckkjjiaecnciaaGreat
