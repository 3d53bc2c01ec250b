/-
  Layer 16 in plain Lean: a cut program cut again; its rules; what leads to its atoms.
-/
import Derived.Test.YtaedgpcmkagpeaaGreatGsQ
namespace Go.Proofs.YtaedgpcmkagpeaaGreat
open Go

section
variable {g : Prog} {l : List Nat}
theorem nat_int {k : Nat} : ((k : Int)).toNat = k := by omega
theorem only_edge (hg : RightG g) (h : ClosedN g l) {a b : Nat} : (a, b) ∈ edgG (onlyG g l) ↔ ∃ ha : a < l.length, ∃ hb : b < l.length, (l[a], l[b]) ∈ edgG g := by
  constructor
  · intro he
    obtain ⟨s, hs, e1, x, hx, e2⟩ := mem_edg.1 he
    obtain ⟨r, hr, h1, rfl⟩ := mem_onlyR.1 hs
    obtain ⟨i, hi, e3, e4⟩ := plcN_mem h.sub h1
    have hy : ∃ y, (y ∈ r.pos ∨ y ∈ r.neg) ∧ plcN l y = x := by
      rcases hx with hx | hx
      · obtain ⟨y, hy, e⟩ := List.mem_map.1 hx; exact ⟨y, .inl hy, e⟩
      · obtain ⟨y, hy, e⟩ := List.mem_map.1 hx; exact ⟨y, .inr hy, e⟩
    obtain ⟨y, hy, rfl⟩ := hy
    have hyl : inLN l y = true := by
      rcases hy with hy | hy
      · exact (h.lits r hr h1).1 y hy
      · exact (h.lits r hr h1).2 y hy
    obtain ⟨j, hj, e5, e6⟩ := plcN_mem h.sub hyl
    have ea : i = a := by
      have : (onlyR l r).head = (i : Int) := e4
      rw [this] at e1; omega
    have eb : j = b := by rw [e6] at e2; omega
    subst ea eb
    exact ⟨hi, hj, mem_edg.2 ⟨r, hr, by rw [e3]; exact nat_int, y, hy, by rw [e5]; exact nat_int⟩⟩
  · rintro ⟨ha, hb, he⟩
    obtain ⟨r, hr, e1, x, hx, e2⟩ := mem_edg.1 he
    have hh := hg.head r hr
    have hx0 : 0 ≤ x := by
      rcases hx with hx | hx
      · exact ((hg.pos r hr).1 x hx).1
      · exact ((hg.neg r hr).1 x hx).1
    have e3 : r.head = (l[a] : Int) := by omega
    have e4 : x = (l[b] : Int) := by omega
    refine mem_edg.2 ⟨onlyR l r, mem_onlyR.2 ⟨r, hr, by rw [e3]; exact inLN_at ha, rfl⟩, ?_, plcN l x, ?_, ?_⟩
    · show (plcN l r.head).toNat = a
      rw [e3, plcN_at h.sub ha]; exact nat_int
    · rcases hx with hx | hx
      · exact .inl (List.mem_map.2 ⟨x, hx, rfl⟩)
      · exact .inr (List.mem_map.2 ⟨x, hx, rfl⟩)
    · rw [e4, plcN_at h.sub hb]; exact nat_int
theorem closed_edge (hg : RightG g) (h : ClosedN g l) {a b : Nat} (ha : a ∈ l) (he : (a, b) ∈ edgG g) : b ∈ l := by
  obtain ⟨r, hr, e1, x, hx, e2⟩ := mem_edg.1 he
  have hh := hg.head r hr
  have e3 : r.head = (a : Int) := by omega
  have hl : inLN l r.head = true := by rw [e3]; exact inLN_nat.2 ha
  have hx2 : inLN l x = true := by
    rcases hx with hx | hx
    · exact (h.lits r hr hl).1 x hx
    · exact (h.lits r hr hl).2 x hx
  unfold inLN at hx2
  rw [decide_eq_true_eq] at hx2
  rw [← e2]; exact hx2.1
theorem only_rea (hg : RightG g) (h : ClosedN g l) {i : Nat} (hi : i < l.length) {y : Nat} : Rea (edgG g) l[i] y ↔ ∃ j, ∃ hj : j < l.length, l[j] = y ∧ Rea (edgG (onlyG g l)) i j := by
  constructor
  · intro hr
    induction hr with
    | refl => exact ⟨i, hi, rfl, .refl⟩
    | step _ he ih =>
      obtain ⟨j, hj, e, hj2⟩ := ih
      rw [← e] at he
      have hz := closed_edge hg h (List.getElem_mem hj) he
      obtain ⟨k, hk, e2⟩ := List.mem_iff_getElem.1 hz
      rw [← e2] at he
      exact ⟨k, hk, e2, hj2.step ((only_edge hg h).2 ⟨hj, hk, he⟩)⟩
  · rintro ⟨j, hj, e, hr⟩
    have key : ∀ j, Rea (edgG (onlyG g l)) i j → ∀ hj : j < l.length, Rea (edgG g) l[i] l[j] := by
      intro j hr
      induction hr with
      | refl => intro _; exact .refl
      | step _ he ih =>
        intro hj
        obtain ⟨ha, hb, h2⟩ := (only_edge hg h).1 he
        exact (ih ha).step h2
    rw [← e]; exact key j hr hj
theorem leads_map (hg : RightG g) (h : ClosedN g l) {i : Nat} (hi : i < l.length) : (leadsG (onlyG g l) i).map (fun j => l[j]?.getD 0) = leadsG g l[i] := by
  have hg2 := only_right hg h
  have hi2 : i < (onlyG g l).atoms.length := by rw [only_len]; exact hi
  have hs := leads_sub (onlyG g l) i
  rw [only_len] at hs
  have hrise : ((leadsG (onlyG g l) i).map (fun j => l[j]?.getD 0)).Pairwise (· < ·) := by
    rw [List.pairwise_map]
    refine List.Pairwise.imp_of_mem (fun {a b} ha hb hab => ?_) hs.srt
    have h1 := hs.lt a ha
    have h2 := hs.lt b hb
    rw [List.getElem?_eq_getElem h1, List.getElem?_eq_getElem h2]
    exact List.pairwise_iff_getElem.1 h.sub.srt _ _ _ _ hab
  have hmem : ∀ x, x ∈ (leadsG (onlyG g l) i).map (fun j => l[j]?.getD 0) ↔ x ∈ leadsG g l[i] := fun x => by
    rw [mem_leads hg (h.sub.lt _ (List.getElem_mem hi)), only_rea hg h hi, List.mem_map]
    constructor
    · rintro ⟨j, hj, e⟩
      have h1 := hs.lt j hj
      rw [List.getElem?_eq_getElem h1] at e
      exact ⟨j, h1, e, (mem_leads hg2 hi2).1 hj⟩
    · rintro ⟨j, hj, e, hr⟩
      exact ⟨j, (mem_leads hg2 hi2).2 hr, by rw [List.getElem?_eq_getElem hj]; exact e⟩
  have hrise2 := (leads_sub g l[i]).srt
  have toI : ∀ {m : List Nat}, m.Pairwise (· < ·) → Srt cmpZ (m.map fun k : Nat => (k : Int)) := fun hm => by
    unfold Srt
    rw [List.pairwise_map]
    exact hm.imp fun h => cmpZ_lt.2 (by omega)
  have := srt_ext cmpZ_cmp (toI hrise) (toI hrise2) fun x => by
    rw [List.mem_map, List.mem_map]
    constructor <;> (rintro ⟨k, hk, e⟩; exact ⟨k, by first | exact (hmem k).1 hk | exact (hmem k).2 hk, e⟩)
  have inj := congrArg (List.map Int.toNat) this
  have e : ∀ m : List Nat, (m.map fun k : Nat => (k : Int)).map Int.toNat = m := fun m => by simp [Function.comp_def]
  rw [e, e] at inj
  exact inj
/-- A cut program cut again. -/
theorem only_only (hg : RightG g) (h : ClosedN g l) {i : Nat} (hi : i < l.length) : onlyG (onlyG g l) (leadsG (onlyG g l) i) = onlyG g (leadsG g l[i]) := by
  have hm := leads_map hg h hi
  have hks := leads_sub (onlyG g l) i
  rw [only_len] at hks
  have hms := leads_sub g l[i]
  obtain ⟨k, hk⟩ : ∃ k, k = leadsG (onlyG g l) i := ⟨_, rfl⟩
  obtain ⟨m, hme⟩ : ∃ m, m = leadsG g l[i] := ⟨_, rfl⟩
  rw [← hk] at hm hks ⊢
  rw [← hme] at hm hms ⊢
  have hlen : k.length = m.length := by rw [← hm, List.length_map]
  have hget : ∀ j (hj : j < k.length), ∃ hx : k[j] < l.length, m[j]'(by omega) = l[k[j]] := fun j hj => by
    have hx := hks.lt _ (List.getElem_mem hj)
    refine ⟨hx, ?_⟩
    have : m[j]? = some (l[k[j]]) := by rw [← hm, List.getElem?_map, List.getElem?_eq_getElem hj, Option.map_some, List.getElem?_eq_getElem hx]; rfl
    exact (List.getElem?_eq_some_iff.1 this).2
  have hml : ∀ x : Int, inLN m x = true → inLN l x = true ∧ inLN k (plcN l x) = true ∧ plcN k (plcN l x) = plcN m x := fun x hx => by
    obtain ⟨j, hj, e1, e2⟩ := plcN_mem hms hx
    obtain ⟨hxl, e3⟩ := hget j (by omega)
    rw [e2]
    have e4 : x = (l[k[j]] : Int) := e1.trans (congrArg (fun z : Nat => (z : Int)) e3)
    rw [e4, plcN_at h.sub hxl]
    exact ⟨inLN_at hxl, inLN_at (by omega), plcN_at hks (by omega)⟩
  have hlm : ∀ x : Int, inLN l x = true → inLN k (plcN l x) = true → inLN m x = true := fun x hx hk2 => by
    obtain ⟨j, hj, e1, e2⟩ := plcN_mem h.sub hx
    rw [e2, inLN_nat] at hk2
    obtain ⟨a, ha, e3⟩ := List.mem_iff_getElem.1 hk2
    obtain ⟨hxl, e4⟩ := hget a ha
    rw [e1]
    have : m[a]'(by omega) = l[j] := by rw [e4]; congr 1
    rw [← this]; exact inLN_at _
  have hmc : ClosedN g m := by rw [hme]; exact leads_closed hg (h.sub.lt _ (List.getElem_mem hi))
  have hA : (onlyG (onlyG g l) k).atoms = (onlyG g m).atoms := by
    apply List.ext_getElem?
    intro j
    show (k.map fun x => (onlyG g l).atoms[x]?.getD [])[j]? = (m.map fun x => g.atoms[x]?.getD [])[j]?
    rw [List.getElem?_map, List.getElem?_map]
    by_cases hj : j < k.length
    · obtain ⟨hxl, e3⟩ := hget j hj
      rw [List.getElem?_eq_getElem hj, List.getElem?_eq_getElem (by omega), Option.map_some, Option.map_some, only_atom h hxl, e3, getA (h.sub.lt _ (List.getElem_mem hxl))]
      rfl
    · rw [List.getElem?_eq_none (by omega), List.getElem?_eq_none (by omega)]
      rfl
  have hR : (onlyG (onlyG g l) k).rules = (onlyG g m).rules := by
    show (((g.rules.filter fun r => inLN l r.head).map (onlyR l)).filter fun r => inLN k r.head).map (onlyR k) = (g.rules.filter fun r => inLN m r.head).map (onlyR m)
    rw [List.filter_map, List.filter_filter, List.map_map]
    have hf : (g.rules.filter fun r => ((fun r : Rule => inLN k r.head) ∘ onlyR l) r && inLN l r.head) = g.rules.filter fun r => inLN m r.head := by
      refine List.filter_congr fun r _ => ?_
      show (inLN k (plcN l r.head) && inLN l r.head) = inLN m r.head
      rw [Bool.eq_iff_iff, Bool.and_eq_true]
      exact ⟨fun hh => hlm _ hh.2 hh.1, fun hh => ⟨(hml _ hh).2.1, (hml _ hh).1⟩⟩
    rw [hf]
    refine List.map_congr_left fun r hr => ?_
    obtain ⟨hr1, hr2⟩ := List.mem_filter.1 hr
    have hl2 := hmc.lits r hr1 hr2
    show onlyR k (onlyR l r) = onlyR m r
    unfold onlyR
    simp only
    rw [(hml _ hr2).2.2, List.map_map, List.map_map]
    congr 1
    · exact List.map_congr_left fun x hx => (hml _ (hl2.1 x hx)).2.2
    · exact List.map_congr_left fun x hx => (hml _ (hl2.2 x hx)).2.2
  cases h1 : onlyG (onlyG g l) k
  cases h2 : onlyG g m
  rw [h1, h2] at hA hR
  simp only at hA hR
  rw [hA, hR]

/-! ### An atom's rules there -/
def nilR : Rule := ⟨0, [], []⟩
theorem ofR_rules (g : Prog) (a : Int) : (ofR g a).map (fun k => g.rules[k.toNat]?.getD nilR) = g.rules.filter fun r => decide (r.head = a) := by
  have key : ∀ (l : List Rule) (k : Nat), k ≤ l.length → (ofR ⟨[], l.take k⟩ a).map (fun k => l[k.toNat]?.getD nilR) = (l.take k).filter fun r => decide (r.head = a) := by
    intro l k
    induction k with
    | zero => intro _; rfl
    | succ k ih =>
      intro hk
      rw [ofR_snoc l [] a k hk, List.map_append, ih (by omega), List.take_succ_eq_append_getElem hk, List.filter_append]
      congr 1
      by_cases h : l[k].head = a
      · rw [if_pos h, List.filter_cons, List.filter_nil, if_pos (by simpa using h)]
        show [l[((k : Int)).toNat]?.getD nilR] = _
        rw [nat_int, List.getElem?_eq_getElem (by omega)]; rfl
      · rw [if_neg h, List.filter_cons, List.filter_nil, if_neg (by simpa using h)]; rfl
  have := key g.rules g.rules.length (Nat.le_refl _)
  rw [List.take_length] at this
  exact this
theorem only_of (h : ClosedN g l) {i : Nat} (hi : i < l.length) : (onlyG g l).rules.filter (fun r => decide (r.head = (i : Int))) = (g.rules.filter fun r => decide (r.head = (l[i] : Int))).map (onlyR l) := by
  show ((g.rules.filter fun r => inLN l r.head).map (onlyR l)).filter _ = _
  rw [List.filter_map, List.filter_filter]
  congr 1
  refine List.filter_congr fun r _ => ?_
  show (decide (plcN l r.head = (i : Int)) && inLN l r.head) = decide (r.head = (l[i] : Int))
  rw [Bool.eq_iff_iff, Bool.and_eq_true, decide_eq_true_eq, decide_eq_true_eq]
  constructor
  · rintro ⟨h1, h2⟩
    obtain ⟨j, hj, e1, e2⟩ := plcN_mem h.sub h2
    rw [e2] at h1
    have : j = i := by omega
    subst this; exact e1
  · intro e
    rw [e]
    exact ⟨plcN_at h.sub hi, inLN_at hi⟩
/-- Rule by rule. -/
theorem only_of_at (h : ClosedN g l) {i : Nat} (hi : i < l.length) : (ofR (onlyG g l) (i : Int)).length = (ofR g (l[i] : Int)).length ∧
    ∀ (j : Nat) (a b : Int), (ofR (onlyG g l) (i : Int))[j]? = some a → (ofR g (l[i] : Int))[j]? = some b →
      ∃ ha : a.toNat < (onlyG g l).rules.length, ∃ hb : b.toNat < g.rules.length, 0 ≤ a ∧ 0 ≤ b ∧ instG (onlyG g l) (onlyG g l).rules[a.toNat] = instG g g.rules[b.toNat] := by
  have h1 := ofR_rules (onlyG g l) (i : Int)
  have h2 := ofR_rules g (l[i] : Int)
  rw [only_of h hi, ← h2, List.map_map] at h1
  have hlen := congrArg List.length h1
  rw [List.length_map, List.length_map] at hlen
  refine ⟨hlen, fun j a b ha hb => ?_⟩
  obtain ⟨a0, a1, a2⟩ := mem_ofR.1 (List.mem_of_getElem? ha)
  obtain ⟨b0, b1, b2⟩ := mem_ofR.1 (List.mem_of_getElem? hb)
  refine ⟨a1, b1, a0, b0, ?_⟩
  have h3 := congrArg (fun z => z[j]?) h1
  simp only [List.getElem?_map, ha, hb, Option.map_some, Function.comp_apply, List.getElem?_eq_getElem a1, List.getElem?_eq_getElem b1, Option.getD_some, Option.some.injEq] at h3
  rw [h3]
  exact only_inst h (List.getElem_mem b1) (by rw [b2]; exact inLN_at hi)
/-- What leads to an atom of it. -/
theorem leads_lit (hg : RightG g) {n : Nat} (hn : n < g.atoms.length) {i : Nat} (hi : i < (leadsG g n).length) :
    (leadsG g n)[i] = n ∨ ∃ r ∈ (onlyG g (leadsG g n)).rules, (i : Int) ∈ r.pos ∨ (i : Int) ∈ r.neg := by
  have h := leads_closed hg hn
  obtain ⟨l, hl⟩ : ∃ l, l = leadsG g n := ⟨_, rfl⟩
  have hmem : ∀ b, b ∈ l ↔ Rea (edgG g) n b := fun b => by rw [hl]; exact mem_leads hg hn
  simp only [← hl] at hi h ⊢
  have hr := (hmem _).1 (List.getElem_mem hi)
  have key : ∀ b, Rea (edgG g) n b → b = n ∨ ∃ a, a ∈ l ∧ (a, b) ∈ edgG g := fun b hb => by
    cases hb with
    | refl => exact .inl rfl
    | step h1 h2 => exact .inr ⟨_, (hmem _).2 h1, h2⟩
  rcases key _ hr with e | ⟨a, ha, he⟩
  · exact .inl e
  · right
    obtain ⟨r, hr2, e1, x, hx, e2⟩ := mem_edg.1 he
    have hh := hg.head r hr2
    have e3 : r.head = (a : Int) := by omega
    have hx0 : 0 ≤ x := by
      rcases hx with hx | hx
      · exact ((hg.pos r hr2).1 x hx).1
      · exact ((hg.neg r hr2).1 x hx).1
    have e4 : x = (l[i] : Int) := by omega
    refine ⟨onlyR l r, mem_onlyR.2 ⟨r, hr2, by rw [e3]; exact inLN_nat.2 ha, rfl⟩, ?_⟩
    have e5 : plcN l x = (i : Int) := by rw [e4]; exact plcN_at h.sub hi
    rcases hx with hx | hx
    · exact .inl (List.mem_map.2 ⟨x, hx, e5⟩)
    · exact .inr (List.mem_map.2 ⟨x, hx, e5⟩)
end
end Go.Proofs.YtaedgpcmkagpeaaGreat
