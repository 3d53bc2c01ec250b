/-
  Plain: what a match tells is right; what matches.
-/
import Derived.Test.YtckkjjiaecnciaaGreatMtH
import Derived.Test.YtckkjjiaecnciaaGreatMtE
namespace Go.Proofs.YtckkjjiaecnciaaGreat
open Go Go.RowKit

theorem varsL_nodup (t : List Cell) : (varsL t).Nodup := by
  have h : ∀ (t : List Cell) (o : List Int), o.Nodup → (t.foldl varsTo o).Nodup := by
    intro t
    induction t with
    | nil => intro o h; exact h
    | cons c t ih =>
      intro o h
      refine ih _ ?_
      unfold varsTo
      split
      · rename_i h2
        exact List.nodup_append.2 ⟨h, by simp, fun a ha b hb e => by
          have hb' : b = c.n := by simpa using hb
          subst hb'; subst e; exact h2.2 ha⟩
      · exact h
  exact h t [] (by simp)

def substF (σ : Int → List Cell) (p : List Cell) : List Cell := p.flatMap fun c => if c.kind = 1 then σ c.n else [c]
theorem substF_cons (σ : Int → List Cell) (c : Cell) (p : List Cell) : substF σ (c :: p) = (if c.kind = 1 then σ c.n else [c]) ++ substF σ p := rfl
theorem substF_nil (σ : Int → List Cell) : substF σ [] = [] := rfl

theorem bindS_app {s : List Bnd} {b : Bnd} {n : Int} {y : List Cell} (h : bindS s n = some y) : bindS (s ++ [b]) n = some y := by
  rw [bindS_snoc1, h]; rfl

theorem matchL_sound : ∀ {p t : List Cell} {s s' : List Bnd}, matchL p t s = some s' →
    (∀ n y, bindS s n = some y → bindS s' n = some y) ∧ (∀ c ∈ p, c.kind = 1 → ∃ y, bindS s' c.n = some y) ∧ ∃ r, t = substF (fun n => (bindS s' n).getD []) p ++ r
  | [], t, s, s', h => by
    rw [matchL] at h
    obtain rfl := Option.some.inj h
    exact ⟨fun _ _ h => h, by simp, t, rfl⟩
  | c :: p, [], s, s', h => by rw [matchL] at h; cases h
  | c :: p, d :: t, s, s', h => by
    by_cases hk : c.kind = 1
    · cases hb : bindS s c.n with
      | some y =>
        rw [matchL_old hk hb] at h
        split at h
        · rename_i he
          obtain ⟨h1, h2, r, h3⟩ := matchL_sound h
          have hy := h1 _ _ hb
          refine ⟨h1, fun x hx hxk => ?_, r, ?_⟩
          · rcases List.mem_cons.1 hx with rfl | hx
            · exact ⟨y, hy⟩
            · exact h2 x hx hxk
          · rw [substF_cons, if_pos hk, hy, Option.getD_some, List.append_assoc, ← h3, he, List.take_append_drop]
        · cases h
      | none =>
        rw [matchL_new hk hb] at h
        obtain ⟨h1, h2, r, h3⟩ := matchL_sound h
        have hy : bindS s' c.n = some ((d :: t).take (subN (d :: t))) := h1 _ _ (by rw [bindS_snoc1, hb]; simp)
        refine ⟨fun n y hn => h1 n y (bindS_app hn), fun x hx hxk => ?_, r, ?_⟩
        · rcases List.mem_cons.1 hx with rfl | hx
          · exact ⟨_, hy⟩
          · exact h2 x hx hxk
        · rw [substF_cons, if_pos hk, hy, Option.getD_some, List.append_assoc, ← h3, List.take_append_drop]
    · rw [matchL_fun hk] at h
      split at h
      · rename_i he
        obtain ⟨h1, h2, r, h3⟩ := matchL_sound h
        refine ⟨h1, fun x hx hxk => ?_, r, ?_⟩
        · rcases List.mem_cons.1 hx with rfl | hx
          · exact absurd hxk hk
          · exact h2 x hx hxk
        · rw [substF_cons, if_neg hk, he, List.append_assoc, ← h3]; rfl
      · cases h
theorem matchL_right : ∀ {p t : List Cell} {s s' : List Bnd}, matchL p t s = some s' → Whole t → (∀ n y, bindS s n = some y → RightT y) → ∀ n y, bindS s' n = some y → RightT y
  | [], t, s, s', h, _, hr => by
    rw [matchL] at h
    obtain rfl := Option.some.inj h
    exact hr
  | c :: p, [], s, s', h, _, _ => by rw [matchL] at h; cases h
  | c :: p, d :: t, s, s', h, hw, hr => by
    by_cases hk : c.kind = 1
    · obtain ⟨-, -, -, hR, hW⟩ := hw.sub (by simp)
      cases hb : bindS s c.n with
      | some y =>
        rw [matchL_old hk hb] at h
        split at h
        · exact matchL_right h hW hr
        · cases h
      | none =>
        rw [matchL_new hk hb] at h
        refine matchL_right h hW fun n y hn => ?_
        rw [bindS_snoc1] at hn
        cases hs : bindS s n with
        | some z => rw [hs] at hn; simp at hn; exact hr n y (by rw [hs, hn])
        | none =>
          rw [hs, Option.none_or] at hn
          split at hn
          · simp only [Option.some.injEq] at hn; rw [← hn]; exact hR
          · cases hn
    · rw [matchL_fun hk] at h
      split at h
      · exact matchL_right h hw.tail.1 hr
      · cases h
theorem endC_full {u r : List Cell} {k : Nat} (h : endC k u = some u.length) : endC k (u ++ r) = some u.length := by
  have := endC_append h r
  rwa [List.take_length] at this
theorem subN_full {u r : List Cell} (h : RightT u) : subN (u ++ r) = u.length := by unfold subN; rw [endC_full h.2]; rfl
theorem matchL_complete (σ : Int → List Cell) : ∀ {p t r : List Cell} {s : List Bnd}, (∀ c ∈ p, c.kind = 1 → RightT (σ c.n)) → t = substF σ p ++ r → (∀ n y, bindS s n = some y → y = σ n) → ∃ s', matchL p t s = some s'
  | [], t, r, s, _, _, _ => ⟨s, by rw [matchL]⟩
  | c :: p, t, r, s, hσ, ht, hs => by
    rw [substF_cons, List.append_assoc] at ht
    by_cases hk : c.kind = 1
    · rw [if_pos hk] at ht
      have hr := hσ c (by simp) hk
      have hp := hr.pos
      obtain ⟨d, u, hu⟩ : ∃ d u, σ c.n = d :: u := by
        cases h : σ c.n with
        | nil => rw [h] at hp; simp at hp
        | cons d u => exact ⟨d, u, rfl⟩
      have hsub := subN_full (r := substF σ p ++ r) hr
      have htk : t.take (subN t) = σ c.n := by rw [ht, hsub, List.take_left]
      have hdr : t.drop (subN t) = substF σ p ++ r := by rw [ht, hsub, List.drop_left]
      obtain ⟨d', t', rfl⟩ : ∃ d' t', t = d' :: t' := ⟨d, u ++ (substF σ p ++ r), by rw [ht, hu]; rfl⟩
      cases hb : bindS s c.n with
      | some y =>
        rw [matchL_old hk hb, if_pos (by rw [htk]; exact hs _ _ hb), hdr]
        exact matchL_complete σ (fun x hx => hσ x (by simp [hx])) rfl hs
      | none =>
        rw [matchL_new hk hb, hdr, htk]
        refine matchL_complete σ (fun x hx => hσ x (by simp [hx])) rfl fun n y hn => ?_
        rw [bindS_snoc1] at hn
        cases h2 : bindS s n with
        | some z => rw [h2] at hn; simp at hn; exact hs n y (by rw [h2, hn])
        | none =>
          rw [h2, Option.none_or] at hn
          split at hn
          · rename_i he
            simp only [Option.some.injEq] at hn
            dsimp only at he
            rw [← hn, he]
          · cases hn
    · rw [if_neg hk] at ht
      obtain rfl : t = c :: (substF σ p ++ r) := ht
      rw [matchL_fun hk, if_pos rfl]
      exact matchL_complete σ (fun x hx => hσ x (by simp [hx])) rfl hs
theorem endC_substF (σ : Int → List Cell) : ∀ {p : List Cell} {k : Nat}, (∀ c ∈ p, c.kind = 1 → RightT (σ c.n)) → endC k p = some p.length → endC k (substF σ p) = some (substF σ p).length
  | [], k, _, h => by
    cases k with
    | zero => rfl
    | succ k => simp [endC] at h
  | c :: p, k, hσ, h => by
    cases k with
    | zero => rw [endC_zero] at h; simp at h
    | succ k =>
      rw [endC_succ] at h
      split at h
      · rename_i hc
        obtain ⟨j, h1, h2⟩ := Option.map_eq_some_iff.1 h
        obtain rfl : j = p.length := by simpa using h2
        have ih := endC_substF σ (fun x hx => hσ x (by simp [hx])) h1
        rw [substF_cons]
        by_cases hk : c.kind = 1
        · have ha : arity c = 0 := by unfold arity; rw [if_neg (by omega)]
          rw [ha, Nat.add_zero] at ih
          rw [if_pos hk, show k + 1 = 1 + k by omega, endC_add, endC_full (hσ c (by simp) hk).2]
          simp only [Option.bind_some, List.drop_left, ih, Option.map_some, List.length_append]
        · rw [if_neg hk, List.singleton_append, endC_succ, if_pos hc, ih]
          simp
      · cases h
/-- What matches: what comes of it by terms put in. -/
theorem matchB_iff {p t : List Cell} (hp : RightT p) (ht : RightT t) : matchB p t = true ↔ ∃ σ : Int → List Cell, (∀ c ∈ p, c.kind = 1 → RightT (σ c.n)) ∧ t = substF σ p := by
  constructor
  · intro h
    unfold matchB at h
    obtain ⟨s, hs⟩ := Option.isSome_iff_exists.1 h
    obtain ⟨-, h2, r, h3⟩ := matchL_sound hs
    have hr := matchL_right hs ht.whole (fun n y h => by simp [bindS] at h)
    have hσ : ∀ c ∈ p, c.kind = 1 → RightT ((bindS s c.n).getD []) := fun c hc hk => by
      obtain ⟨y, hy⟩ := h2 c hc hk
      rw [hy]; exact hr _ _ hy
    refine ⟨fun n => (bindS s n).getD [], hσ, ?_⟩
    have he := endC_full (r := r) (endC_substF (fun n => (bindS s n).getD []) hσ hp.2)
    rw [← h3, ht.2] at he
    have hl : t.length = _ := Option.some.inj he
    have : r = [] := by
      have := congrArg List.length h3
      rw [List.length_append] at this
      exact List.eq_nil_of_length_eq_zero (by omega)
    rw [this, List.append_nil] at h3
    exact h3
  · rintro ⟨σ, hσ, h⟩
    obtain ⟨s', hs⟩ := matchL_complete σ (t := t) (r := []) (s := []) hσ (by rw [List.append_nil, ← h]) (fun n y h => by simp [bindS] at h)
    unfold matchB
    rw [hs]; rfl
/-- What a match tells is right. -/
theorem mP_eq {p t : List Cell} (hp : RightT p) (ht : RightT t) : (match matchL p t [] with
    | none => false
    | some s => rightS (outL s (sortL (varsL p)))) = matchB p t := by
  unfold matchB
  cases hm : matchL p t [] with
  | none => rfl
  | some s =>
    show rightS (outL s (sortL (varsL p))) = true
    obtain ⟨-, h2, -⟩ := matchL_sound hm
    have hr := matchL_right hm ht.whole (fun n y h => by simp [bindS] at h)
    rw [rightS_iff]
    have hmem : ∀ x ∈ outL s (sortL (varsL p)), x.var ∈ varsL p ∧ (∃ y, bindS s x.var = some y ∧ x.t = y) ∧ isV x.var x.t = false := fun x hx => by
      unfold outL at hx
      obtain ⟨h3, h4⟩ := List.mem_filter.1 hx
      obtain ⟨n, hn, rfl⟩ := List.mem_map.1 h3
      have hn' := sortL_mem.1 hn
      obtain ⟨c, hc, hk, rfl⟩ := varsL_mem.1 hn'
      obtain ⟨y, hy⟩ := h2 c hc hk
      refine ⟨hn', ⟨y, hy, by simp [hy]⟩, by simpa using h4⟩
    have hcell := hp.cells
    refine ⟨?_, fun x hx => ?_, fun x hx => ?_, fun x hx => ?_⟩
    · unfold outL
      refine List.Pairwise.filter _ ?_
      rw [List.pairwise_map]
      have hnd : (sortL (varsL p)).Nodup := (sortL_perm _).nodup_iff.2 (varsL_nodup p)
      exact ((sortL_le (varsL p)).and hnd).imp fun {a b} ⟨h1, h2⟩ => by
        show a < b
        omega
    · obtain ⟨h1, -⟩ := hmem x hx
      obtain ⟨c, hc, hk, he⟩ := varsL_mem.1 h1
      rw [← he]
      exact cell_n (hcell c hc) hk
    · obtain ⟨-, ⟨y, hy, he⟩, -⟩ := hmem x hx
      rw [he]; exact hr _ _ hy
    · exact (hmem x hx).2.2
end Go.Proofs.YtckkjjiaecnciaaGreat
