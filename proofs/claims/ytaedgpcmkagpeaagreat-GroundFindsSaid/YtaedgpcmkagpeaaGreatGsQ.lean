/-
  Layer 16 in plain Lean: cut programs.
-/
import Derived.Test.YtaedgpcmkagpeaaGreatGsP
namespace Go.Proofs.YtaedgpcmkagpeaaGreat
open Go

/-! ### Places in a rising row of numbers -/
structure SubN (n : Nat) (l : List Nat) : Prop where
  lt : ∀ k ∈ l, k < n
  srt : l.Pairwise (· < ·)
theorem SubN.nodup {n : Nat} {l : List Nat} (h : SubN n l) : l.Nodup := h.srt.imp fun h => by omega
theorem plcN_at {n : Nat} {l : List Nat} (h : SubN n l) {i : Nat} (hi : i < l.length) : plcN l (l[i] : Int) = (i : Int) := by
  unfold plcN
  rw [if_pos ⟨by simp, by omega⟩]
  have : (l[i] : Int).toNat = l[i] := by omega
  rw [this, h.nodup.idxOf_getElem]
theorem plcN_mem {n : Nat} {l : List Nat} (h : SubN n l) {x : Int} (hx : inLN l x = true) : ∃ i, ∃ hi : i < l.length, x = (l[i] : Int) ∧ plcN l x = (i : Int) := by
  unfold inLN at hx
  rw [decide_eq_true_eq] at hx
  obtain ⟨i, hi, e⟩ := List.mem_iff_getElem.1 hx.1
  have e2 : x = (l[i] : Int) := by omega
  refine ⟨i, hi, e2, ?_⟩
  rw [e2]; exact plcN_at h hi
theorem inLN_at {l : List Nat} {i : Nat} (hi : i < l.length) : inLN l (l[i] : Int) = true := by
  unfold inLN
  rw [decide_eq_true_eq]
  exact ⟨by simp, by omega⟩
theorem inLN_nat {l : List Nat} {k : Nat} : inLN l (k : Int) = true ↔ k ∈ l := by
  unfold inLN
  rw [decide_eq_true_eq]
  simp
theorem plcN_cmp {n : Nat} {l : List Nat} (h : SubN n l) {x y : Int} (hx : inLN l x = true) (hy : inLN l y = true) : cmpZ (plcN l x) (plcN l y) = cmpZ x y := by
  obtain ⟨i, hi, rfl, e1⟩ := plcN_mem h hx
  obtain ⟨j, hj, rfl, e2⟩ := plcN_mem h hy
  rw [e1, e2]
  have hlt : ∀ {a b : Nat} (ha : a < l.length) (hb : b < l.length), a < b → l[a] < l[b] := fun ha hb hab => List.pairwise_iff_getElem.1 h.srt _ _ ha hb hab
  unfold cmpZ
  rcases Nat.lt_trichotomy i j with h1 | h1 | h1
  · have := hlt hi hj h1
    rw [if_pos (by omega), if_pos (by omega)]
  · subst h1
    rw [if_neg (by omega), if_neg (by omega), if_neg (by omega), if_neg (by omega)]
  · have := hlt hj hi h1
    rw [if_neg (by omega), if_pos (by omega), if_neg (by omega), if_pos (by omega)]
theorem lexZ_map {f : Int → Int} {P : Int → Prop} (hf : ∀ {x y}, P x → P y → cmpZ (f x) (f y) = cmpZ x y) : ∀ {l m : List Int}, (∀ x ∈ l, P x) → (∀ x ∈ m, P x) → lexZ (l.map f) (m.map f) = lexZ l m
  | [], [], _, _ => rfl
  | [], _ :: _, _, _ => rfl
  | _ :: _, [], _, _ => rfl
  | a :: l, b :: m, h, h' => by
    rw [List.map_cons, List.map_cons, lexZ_cons, lexZ_cons, hf (h a List.mem_cons_self) (h' b List.mem_cons_self), lexZ_map hf (fun x hx => h x (List.mem_cons_of_mem _ hx)) fun x hx => h' x (List.mem_cons_of_mem _ hx)]
theorem srt_map {f : Int → Int} {l : List Int} (hf : ∀ {x y}, x ∈ l → y ∈ l → cmpZ (f x) (f y) = cmpZ x y) (h : Srt cmpZ l) : Srt cmpZ (l.map f) := by
  unfold Srt
  rw [List.pairwise_map]
  exact List.Pairwise.imp_of_mem (fun ha hb hab => by rw [hf ha hb]; exact hab) h

/-! ### What an atom leans on -/
theorem mem_edg {g : Prog} {a b : Nat} : (a, b) ∈ edgG g ↔ ∃ r ∈ g.rules, r.head.toNat = a ∧ ∃ x, (x ∈ r.pos ∨ x ∈ r.neg) ∧ x.toNat = b := by
  unfold edgG
  rw [List.mem_flatMap]
  constructor
  · rintro ⟨r, hr, h⟩
    obtain ⟨x, hx, e⟩ := List.mem_map.1 h
    simp only [Prod.mk.injEq] at e
    exact ⟨r, hr, e.1, x, List.mem_append.1 hx, e.2⟩
  · rintro ⟨r, hr, e1, x, hx, e2⟩
    exact ⟨r, hr, List.mem_map.2 ⟨x, List.mem_append.2 hx, by rw [e1, e2]⟩⟩
theorem edg_rng {g : Prog} (h : RightG g) : ∀ e ∈ edgG g, e.1 < g.atoms.length ∧ e.2 < g.atoms.length := by
  rintro ⟨a, b⟩ he
  obtain ⟨r, hr, e1, x, hx, e2⟩ := mem_edg.1 he
  have h1 := h.head r hr
  have h2 : 0 ≤ x ∧ x < g.atoms.length := by
    rcases hx with hx | hx
    · exact (h.pos r hr).1 x hx
    · exact (h.neg r hr).1 x hx
  simp only
  omega
theorem leads_sub (g : Prog) (a : Nat) : SubN g.atoms.length (leadsG g a) := by
  unfold leadsG reachL
  refine ⟨fun k hk => List.mem_range.1 (List.mem_filter.1 hk).1, List.Pairwise.filter _ List.pairwise_lt_range⟩
theorem mem_leads {g : Prog} (h : RightG g) {a : Nat} (ha : a < g.atoms.length) {b : Nat} : b ∈ leadsG g a ↔ Rea (edgG g) a b := by
  unfold leadsG
  rw [mem_reachL]
  exact reB_iff (edg_rng h) ha
/-- A row of atoms that holds all that its atoms' rules have. -/
structure ClosedN (g : Prog) (l : List Nat) : Prop where
  sub : SubN g.atoms.length l
  lits : ∀ r ∈ g.rules, inLN l r.head = true → (∀ x ∈ r.pos, inLN l x = true) ∧ ∀ x ∈ r.neg, inLN l x = true
theorem leads_closed {g : Prog} (h : RightG g) {a : Nat} (ha : a < g.atoms.length) : ClosedN g (leadsG g a) := by
  refine ⟨leads_sub g a, fun r hr hh => ?_⟩
  have h1 := h.head r hr
  have hR : Rea (edgG g) a r.head.toNat := (mem_leads h ha).1 (by unfold inLN at hh; rw [decide_eq_true_eq] at hh; exact hh.1)
  have key : ∀ x, (x ∈ r.pos ∨ x ∈ r.neg) → inLN (leadsG g a) x = true := fun x hx => by
    have h0 : 0 ≤ x := by
      rcases hx with hx | hx
      · exact ((h.pos r hr).1 x hx).1
      · exact ((h.neg r hr).1 x hx).1
    unfold inLN
    rw [decide_eq_true_eq]
    exact ⟨(mem_leads h ha).2 (hR.step (mem_edg.2 ⟨r, hr, rfl, x, hx, rfl⟩)), h0⟩
  exact ⟨fun x hx => key x (.inl hx), fun x hx => key x (.inr hx)⟩

/-! ### The rules of a closed row -/
section
variable {g : Prog} {l : List Nat}
theorem only_atom {i : Nat} (h : ClosedN g l) (hi : i < l.length) : (onlyG g l).atoms[i]? = some (g.atoms[l[i]]'(h.sub.lt _ (List.getElem_mem hi))) := by
  unfold onlyG
  simp only
  rw [List.getElem?_map, List.getElem?_eq_getElem hi, Option.map_some, getA (h.sub.lt _ (List.getElem_mem hi))]
theorem only_len : (onlyG g l).atoms.length = l.length := by unfold onlyG; simp
theorem only_atom' (h : ClosedN g l) {i : Nat} (hi : i < (onlyG g l).atoms.length) : (onlyG g l).atoms[i] = g.atoms[l[i]'(by rw [only_len] at hi; exact hi)]'(h.sub.lt _ (List.getElem_mem _)) := by
  have hi' : i < l.length := by rw [only_len] at hi; exact hi
  have := only_atom h hi'
  rw [List.getElem?_eq_getElem hi] at this
  exact Option.some.inj this
theorem mem_onlyR {s : Rule} : s ∈ (onlyG g l).rules ↔ ∃ r ∈ g.rules, inLN l r.head = true ∧ onlyR l r = s := by
  unfold onlyG
  simp only
  rw [List.mem_map]
  constructor
  · rintro ⟨r, hr, e⟩
    obtain ⟨h1, h2⟩ := List.mem_filter.1 hr
    exact ⟨r, h1, h2, e⟩
  · rintro ⟨r, h1, h2, e⟩
    exact ⟨r, List.mem_filter.2 ⟨h1, h2⟩, e⟩
theorem plc_rng {n : Nat} (h : SubN n l) {x : Int} (hx : inLN l x = true) : 0 ≤ plcN l x ∧ plcN l x < l.length := by
  obtain ⟨i, hi, -, e⟩ := plcN_mem h hx; omega
theorem onlyR_cmp (h : ClosedN g l) {a b : Rule} (ha : a ∈ g.rules) (hb : b ∈ g.rules) (ha' : inLN l a.head = true) (hb' : inLN l b.head = true) : cmpU (onlyR l a) (onlyR l b) = cmpU a b := by
  have h1 := h.lits a ha ha'
  have h2 := h.lits b hb hb'
  unfold cmpU onlyR
  simp only
  rw [plcN_cmp h.sub ha' hb', lexZ_map (P := fun x => inLN l x = true) (fun hx hy => plcN_cmp h.sub hx hy) h1.1 h2.1, lexZ_map (P := fun x => inLN l x = true) (fun hx hy => plcN_cmp h.sub hx hy) h1.2 h2.2]
theorem only_right (hg : RightG g) (h : ClosedN g l) : RightG (onlyG g l) := by
  have key : ∀ m : List Int, (∀ x ∈ m, inLN l x = true) → Srt cmpZ m → (∀ x ∈ m.map (plcN l), 0 ≤ x ∧ x < (onlyG g l).atoms.length) ∧ Srt cmpZ (m.map (plcN l)) := fun m hm hs => by
    refine ⟨fun x hx => ?_, srt_map (fun hx hy => plcN_cmp h.sub (hm _ hx) (hm _ hy)) hs⟩
    obtain ⟨y, hy, rfl⟩ := List.mem_map.1 hx
    rw [only_len]
    exact plc_rng h.sub (hm y hy)
  refine ⟨fun t ht => ?_, ?_, fun r hr => ?_, fun r hr => ?_, fun r hr => ?_, ?_⟩
  · obtain ⟨i, hi, rfl⟩ := List.mem_iff_getElem.1 ht
    rw [only_atom' h hi]
    exact hg.atoms _ (List.getElem_mem _)
  · refine List.pairwise_iff_getElem.2 fun i j hi hj hij => ?_
    rw [only_atom' h hi, only_atom' h hj]
    exact List.pairwise_iff_getElem.1 hg.srt _ _ _ _ (List.pairwise_iff_getElem.1 h.sub.srt _ _ _ _ hij)
  · obtain ⟨s, hs, h1, rfl⟩ := mem_onlyR.1 hr
    rw [only_len]
    exact plc_rng h.sub h1
  · obtain ⟨s, hs, h1, rfl⟩ := mem_onlyR.1 hr
    exact key _ (h.lits s hs h1).1 (hg.pos s hs).2
  · obtain ⟨s, hs, h1, rfl⟩ := mem_onlyR.1 hr
    exact key _ (h.lits s hs h1).2 (hg.neg s hs).2
  · unfold Srt onlyG
    simp only
    rw [List.pairwise_map]
    refine List.Pairwise.imp_of_mem (fun {a b} ha hb hab => ?_) (hg.rsrt.filter _)
    obtain ⟨a1, a2⟩ := List.mem_filter.1 ha
    obtain ⟨b1, b2⟩ := List.mem_filter.1 hb
    rw [onlyR_cmp h a1 b1 a2 b2]; exact hab
/-- A rule's instance stays. -/
theorem only_inst (h : ClosedN g l) {r : Rule} (hr : r ∈ g.rules) (hl : inLN l r.head = true) : instG (onlyG g l) (onlyR l r) = instG g r := by
  have key : ∀ x : Int, inLN l x = true → (onlyG g l).atoms[(plcN l x).toNat]?.getD [] = g.atoms[x.toNat]?.getD [] := fun x hx => by
    obtain ⟨i, hi, rfl, e⟩ := plcN_mem h.sub hx
    have e1 : ((i : Int)).toNat = i := by omega
    have e2 : ((l[i] : Nat) : Int).toNat = l[i] := by omega
    rw [e, e1, e2, only_atom h hi, getA (h.sub.lt _ (List.getElem_mem hi))]; rfl
  have h1 := h.lits r hr hl
  unfold instG onlyR
  simp only
  rw [key _ hl, List.map_map, List.map_map]
  congr 1
  · exact List.map_congr_left fun x hx => key x (h1.1 x hx)
  · exact List.map_congr_left fun x hx => key x (h1.2 x hx)
end
end Go.Proofs.YtaedgpcmkagpeaaGreat
