/-
  Layer 14 in plain Lean: tables sorted are right, rise, and stay so when sorted again.
-/
import Derived.Test.YtckkjjiaecnciaaGreatSpA
namespace Go.Proofs.YtckkjjiaecnciaaGreat
open Go

theorem srt_setL {α : Type} {c : α → α → Int} (hc : Cmp c) {l : List α} (h : Srt c l) : setL c l = l :=
  (srt_ext hc h (setL_srt hc l) fun _ => (mem_setL hc).symm).symm
section
variable {s : List Tab}
theorem sort_get (h : GoodS s) {p : Nat} (hp : p < (sortTs s).length) : ∃ i, ∃ hi : i < s.length, plcS s i = p ∧ (sortTs s)[p] = ⟨s[i].call, setL cmpT s[i].ans⟩ := by
  obtain ⟨i, hi, rfl⟩ := plc_surj h (p := p) (by rw [sort_len] at hp; exact hp)
  exact ⟨i, hi, rfl, (sort_at h hi).2⟩
theorem sort_mem (h : GoodS s) {t : Tab} (ht : t ∈ sortTs s) : ∃ x ∈ s, t = ⟨x.call, setL cmpT x.ans⟩ := by
  obtain ⟨p, hp, rfl⟩ := List.mem_iff_getElem.1 ht
  obtain ⟨i, hi, -, e⟩ := sort_get h hp
  exact ⟨_, List.getElem_mem hi, e⟩
theorem sort_good (h : GoodS s) : GoodS (sortTs s) := by
  refine ⟨by rw [sort_len]; exact h.len, fun t ht => ?_, fun t ht => ?_, fun t ht => ?_, fun i j hi hj e => ?_, fun t ht => ?_, fun t ht a ha => ?_, fun t ht => ?_⟩
  · obtain ⟨x, hx, rfl⟩ := sort_mem h ht; exact h.right x hx
  · obtain ⟨x, hx, rfl⟩ := sort_mem h ht; exact h.isF x hx
  · obtain ⟨x, hx, rfl⟩ := sort_mem h ht; exact h.num x hx
  · have hn : ((sortTs s).map (·.call)).Nodup := by rw [sort_call h]; exact (setL_srt cmpT_cmp _).nodup cmpT_cmp
    exact nodup_inj hn (by rw [List.length_map]; exact hi) (by rw [List.length_map]; exact hj) (by rw [List.getElem_map, List.getElem_map]; exact e)
  · obtain ⟨x, hx, rfl⟩ := sort_mem h ht
    show (setL cmpT x.ans).length ≤ 30
    rw [set_length cmpT_cmp (h.nodup x hx)]; exact h.anl x hx
  · obtain ⟨x, hx, rfl⟩ := sort_mem h ht
    exact h.ans x hx a ((mem_setL cmpT_cmp).1 ha)
  · obtain ⟨x, hx, rfl⟩ := sort_mem h ht
    exact (setL_srt cmpT_cmp _).nodup cmpT_cmp
theorem sort_again (h : GoodS s) (hs : (s.map (·.call)).Pairwise fun a b => cmpT a b < 0) (ha : ∀ t ∈ s, setL cmpT t.ans = t.ans) : sortTs s = s ∧ placesS s = (List.range s.length).map fun i : Nat => (i : Int) := by
  have hcall : ∀ i (hi : i < s.length), callAt s i = s[i].call := fun i hi => callAt_eq hi
  obtain ⟨h1, h2⟩ := sort_of h (o := List.range s.length) (fun i hi => List.mem_range.1 hi) List.length_range (by
    refine List.pairwise_iff_getElem.2 fun i j hi hj hij => ?_
    rw [List.length_range] at hi hj
    rw [List.getElem_range, List.getElem_range, hcall i hi, hcall j hj]
    have := List.pairwise_iff_getElem.1 hs i j (by rw [List.length_map]; exact hi) (by rw [List.length_map]; exact hj) hij
    rwa [List.getElem_map, List.getElem_map] at this)
  constructor
  · rw [← h1]
    apply List.ext_getElem
    · simp
    · intro i hi hi2
      rw [List.getElem_map, List.getElem_range, tabS_eq hi2, ha _ (List.getElem_mem hi2)]
  · unfold placesS
    refine List.map_congr_left fun i hi => ?_
    have hi2 := List.mem_range.1 hi
    have := h2 i (by rw [List.length_range]; exact hi2)
    rw [List.getElem_range] at this
    rw [this]
theorem total_perm {a b : List Tab} (h : (a.map fun t => t.ans.length).Perm (b.map fun t => t.ans.length)) : totalT a = totalT b := h.sum_nat
theorem sort_total (h : GoodS s) : totalT (sortTs s) = totalT s := by
  have hch : ∀ p : Nat, ∃ i : Nat, p < s.length → ∃ hi : i < s.length, plcS s i = p ∧ (sortTs s)[p]? = some ⟨s[i].call, setL cmpT s[i].ans⟩ := fun p => by
    by_cases hp : p < s.length
    · obtain ⟨i, hi, h1, h2⟩ := sort_get h (p := p) (by rw [sort_len]; exact hp)
      exact ⟨i, fun _ => ⟨hi, h1, by rw [List.getElem?_eq_getElem (by rw [sort_len]; exact hp), h2]⟩⟩
    · exact ⟨0, fun h => absurd h hp⟩
  obtain ⟨f, hf⟩ : ∃ f : Nat → Nat, ∀ p, p < s.length → ∃ hi : f p < s.length, plcS s (f p) = p ∧ (sortTs s)[p]? = some ⟨s[f p].call, setL cmpT s[f p].ans⟩ := ⟨fun p => (hch p).choose, fun p => (hch p).choose_spec⟩
  have hT : (sortTs s).map (fun t => t.ans.length) = ((List.range s.length).map f).map fun i => (s[i]?.map fun t => t.ans.length).getD 0 := by
    apply List.ext_getElem
    · simp [sort_len]
    · intro p h1 h2
      have hp : p < s.length := by rw [List.length_map, sort_len] at h1; exact h1
      obtain ⟨hi, -, e⟩ := hf p hp
      rw [List.getElem_map, List.getElem_map, List.getElem_map, List.getElem_range, List.getElem?_eq_getElem hi]
      have e2 := (List.getElem?_eq_some_iff.1 e).2
      rw [e2]
      show (setL cmpT s[f p].ans).length = _
      rw [set_length cmpT_cmp (h.nodup _ (List.getElem_mem hi))]; rfl
  have hS : s.map (fun t => t.ans.length) = (List.range s.length).map fun i => (s[i]?.map fun t => t.ans.length).getD 0 := by
    apply List.ext_getElem
    · simp
    · intro p h1 h2
      have hp : p < s.length := by simpa using h1
      rw [List.getElem_map, List.getElem_map, List.getElem_range, List.getElem?_eq_getElem hp]; rfl
  refine total_perm ?_
  rw [hT, hS]
  refine List.Perm.map _ ?_
  have hnd : ((List.range s.length).map f).Nodup := by
    refine List.pairwise_iff_getElem.2 fun i j hi hj hij e => ?_
    simp only [List.length_map, List.length_range] at hi hj
    simp only [List.getElem_map, List.getElem_range] at e
    obtain ⟨_, e1, -⟩ := hf i hi
    obtain ⟨_, e2, -⟩ := hf j hj
    rw [e, e2] at e1
    omega
  refine (List.perm_ext_iff_of_nodup hnd List.nodup_range).2 fun x => ?_
  constructor
  · intro hx
    obtain ⟨p, hp, rfl⟩ := List.mem_map.1 hx
    obtain ⟨hi, -⟩ := hf p (List.mem_range.1 hp)
    exact List.mem_range.2 hi
  · intro hx
    refine sub_all hnd (fun y hy => ?_) (by simp) hx
    obtain ⟨p, hp, rfl⟩ := List.mem_map.1 hy
    obtain ⟨hi, -⟩ := hf p (List.mem_range.1 hp)
    exact List.mem_range.2 hi
end

/-- What sorting leaves. -/
structure SortOK (s T : List Tab) (P : List Int) : Prop where
  lenT : T.length = s.length
  lenP : P.length = s.length
  few : s.length ≤ 30
  good : GoodS T
  place : ∀ {k : Nat} {x : Tab}, s[k]? = some x → ∃ p, p < s.length ∧ P[k]? = some (p : Int) ∧ T[p]? = some ⟨x.call, setL cmpT x.ans⟩
  len : ∀ {k : Nat} {x : Tab}, s[k]? = some x → (setL cmpT x.ans).length = x.ans.length ∧ x.ans.length ≤ 30
  rise : ∀ {j k : Nat} {x y : Tab}, j + 1 = k → T[j]? = some x → T[k]? = some y → cmpT x.call y.call < 0
  right : ∀ {k : Nat} {x : Tab}, T[k]? = some x → RightT x.call ∧ x.ans.length ≤ 30 ∧ ∀ a ∈ x.ans, RightT a
  ansr : ∀ {k : Nat} {x : Tab}, T[k]? = some x → Srt cmpT x.ans
  again : sortTs T = T
  plc : placesS T = (List.range s.length).map fun i : Nat => (i : Int)
  tot : totalT T = totalT s
theorem sortOK {s : List Tab} (h : GoodS s) : SortOK s (sortTs s) (placesS s) := by
  have hg := sort_good h
  have hc : ((sortTs s).map (·.call)).Pairwise fun a b => cmpT a b < 0 := by rw [sort_call h]; exact setL_srt cmpT_cmp _
  have har : ∀ t ∈ sortTs s, Srt cmpT t.ans := fun t ht => by
    obtain ⟨x, -, rfl⟩ := sort_mem h ht
    exact setL_srt cmpT_cmp _
  obtain ⟨h1, h2⟩ := sort_again hg hc fun t ht => srt_setL cmpT_cmp (har t ht)
  refine ⟨sort_len s, by unfold placesS; simp, h.len, hg, fun {k x} hk' => ?_, fun {k x} hk' => ?_, fun {j k x y} e hj' hk' => ?_, fun {k x} hk => ?_, fun {k x} hk => har x (List.mem_of_getElem? hk), h1, by rw [h2, sort_len], sort_total h⟩
  · obtain ⟨hk, rfl⟩ := List.getElem?_eq_some_iff.1 hk'
    obtain ⟨hp, e⟩ := sort_at h hk
    refine ⟨plcS s k, plc_lt h hk, ?_, by rw [List.getElem?_eq_getElem hp, e]⟩
    unfold placesS
    simp [hk]
  · obtain ⟨hk, rfl⟩ := List.getElem?_eq_some_iff.1 hk'
    exact ⟨set_length cmpT_cmp (h.nodup _ (List.getElem_mem hk)), h.anl _ (List.getElem_mem hk)⟩
  · obtain ⟨hj, rfl⟩ := List.getElem?_eq_some_iff.1 hj'
    obtain ⟨hk, rfl⟩ := List.getElem?_eq_some_iff.1 hk'
    have := List.pairwise_iff_getElem.1 hc j k (by rw [List.length_map]; exact hj) (by rw [List.length_map]; exact hk) (by omega)
    rwa [List.getElem_map, List.getElem_map] at this
  · have hm := List.mem_of_getElem? hk
    exact ⟨hg.right x hm, hg.anl x hm, fun a ha => (hg.ans x hm a ha).1⟩
end Go.Proofs.YtckkjjiaecnciaaGreat
