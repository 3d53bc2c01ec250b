/-
  Layer 18, the program: what look holds in memory: four rows of a state, and slices that are appended to side by side.
-/
import Derived.Test.YtdbennmbbmoflaaResO
import Derived.Test.YtdbennmbbmoflaaResK
namespace Go.Proofs.Ytdbennmbbmoflaa
open Go Go.RowKit

/-- The four blocks of a state, wherever they lie. -/
structure Made4 (lo : Nat) (n : Nat) (ga gr : Value) (w : World) (Bs B1 B2 B3 : Nat) : Prop where
  st : Row 57 w Bs [ga, gr, .slice (some ⟨B1, 0, none⟩) n n, .slice (some ⟨B2, 0, none⟩) n n, .slice (some ⟨B3, 0, none⟩) n n]
  f : RowB 4 w B1 (List.replicate n false)
  r : RowB 4 w B2 (List.replicate n false)
  fo : RowB 4 w B3 (List.replicate n false)
  ne : B1 ≠ B2 ∧ B1 ≠ B3 ∧ B2 ≠ B3 ∧ Bs ≠ B1 ∧ Bs ≠ B2 ∧ Bs ≠ B3
  lo : lo ≤ B1 ∧ lo ≤ B2 ∧ lo ≤ B3 ∧ lo ≤ Bs

section
variable {w : World} {a b c d : Obj} {B : Nat}
theorem four_1 (h : B = w.heap.size) : ((((w.alloc a).alloc b).alloc c).alloc d).drew.heap[B]? = some a := by
  subst h
  show ((((w.heap.push a).push b).push c).push d)[_]? = _
  simp only [Array.getElem?_push, Array.size_push]
  repeat (first | rw [if_pos (by omega)] | rw [if_neg (by omega)])
  try simp
theorem four_2 (h : B = w.heap.size + 1) : ((((w.alloc a).alloc b).alloc c).alloc d).drew.heap[B]? = some b := by
  subst h
  show ((((w.heap.push a).push b).push c).push d)[_]? = _
  simp only [Array.getElem?_push, Array.size_push]
  repeat (first | rw [if_pos (by omega)] | rw [if_neg (by omega)])
  try simp
theorem four_3 (h : B = w.heap.size + 1 + 1) : ((((w.alloc a).alloc b).alloc c).alloc d).drew.heap[B]? = some c := by
  subst h
  show ((((w.heap.push a).push b).push c).push d)[_]? = _
  simp only [Array.getElem?_push, Array.size_push]
  repeat (first | rw [if_pos (by omega)] | rw [if_neg (by omega)])
  try simp
theorem four_4 (h : B = w.heap.size + 1 + 1 + 1) : ((((w.alloc a).alloc b).alloc c).alloc d).drew.heap[B]? = some d := by
  subst h
  show ((((w.heap.push a).push b).push c).push d)[_]? = _
  simp only [Array.getElem?_push, Array.size_push]
  repeat (first | rw [if_pos (by omega)] | rw [if_neg (by omega)])
  try simp
end
theorem two_1 {w : World} {a b : Obj} {B : Nat} (h : B = w.heap.size) : ((w.alloc a).alloc b).drew.heap[B]? = some a := by
  subst h
  show ((w.heap.push a).push b)[_]? = _
  simp only [Array.getElem?_push, Array.size_push]
  repeat (first | rw [if_pos (by omega)] | rw [if_neg (by omega)])
  try simp
theorem two_2 {w : World} {a b : Obj} {B : Nat} (h : B = w.heap.size + 1) : ((w.alloc a).alloc b).drew.heap[B]? = some b := by
  subst h
  show ((w.heap.push a).push b)[_]? = _
  simp only [Array.getElem?_push, Array.size_push]
  repeat (first | rw [if_pos (by omega)] | rw [if_neg (by omega)])
  try simp
theorem RowB.of {T : TypeId} {w : World} {B n : Nat} (h : w.heap[B]? = some (.cells (madeCells #[.bool false] n) T)) : RowB T w B (List.replicate n false) := by
  unfold RowB Row
  rw [h, madeCells_one, List.map_replicate]


/-! ### Slices of one's own, side by side -/
theorem Own.at' {base : Nat} {e : TypeId} {w w' : World} {v : Value} {l : List Int} (h : Own intE (fun _ => False) base e w v l)
    (hw : ∀ b, v.ownBlock = some b → w'.heap[b]? = w.heap[b]?) : Own intE (fun _ => False) base e w' v l := by
  obtain ⟨vs, h1, h2⟩ := h
  refine ⟨vs, ownsRow_at h1 hw, fun k x hx => ?_⟩
  obtain ⟨cs, h3, h4⟩ := h2 k x hx
  exact ⟨cs, ⟨h3.1, h3.2⟩, h4⟩
theorem Own.blk {α : Type} {E : Elt α} {S : Nat → Prop} {base : Nat} {e : TypeId} {w : World} {v : Value} {l : List α} (h : Own E S base e w v l) {b : Nat} (hb : v.ownBlock = some b) : base ≤ b ∧ b < w.heap.size := by
  obtain ⟨vs, h1, _⟩ := h; exact h1.lt b hb
theorem Own.shape {α : Type} {E : Elt α} {S : Nat → Prop} {base : Nat} {e : TypeId} {w : World} {v : Value} {l : List α} (h : Own E S base e w v l) : ∃ ao cap, v = .slice ao l.length cap ∧ l.length ≤ cap ∧ cap ≤ maxLen := by
  obtain ⟨vs, h1, _⟩ := h
  obtain ⟨ao, cap, h2, h3, h4, _⟩ := own_shape h1
  exact ⟨ao, cap, h2, h3, h4⟩
theorem Own.int {base : Nat} {e : TypeId} {w : World} {v : Value} {l : List Int} (h : Own intE (fun _ => False) base e w v l) {k : Nat} (hk : k < l.length) :
    ∃ g cap, v = .slice (some ⟨g, 0, none⟩) l.length cap ∧ base ≤ g ∧ g < w.heap.size ∧ w.cell? ⟨g, k, none⟩ = some (.int .i64 l[k]) ∧ IntOK l[k] := by
  obtain ⟨vs, h1, h2⟩ := h
  obtain ⟨cs, ⟨rfl, h3⟩, h4⟩ := h2 k _ (List.getElem?_eq_getElem hk)
  obtain ⟨g, cap, h5, h6, h7, h8, -⟩ := own_cell h1 (i := k) (by show k < l.length * 1; omega)
  have := h4 0 (by decide)
  simp only [intE, Nat.mul_one, Nat.add_zero] at this
  exact ⟨g, cap, h5, h6, h7, by rw [h8, this]; rfl, h3⟩
theorem Own.front {base : Nat} {e : TypeId} {w : World} {ao : Option Addr} {cap : Nat} {l : List Int} {x : Int} (h : Own intE (fun _ => False) base e w (.slice ao (l ++ [x]).length cap) (l ++ [x])) : Own intE (fun _ => False) base e w (.slice ao l.length cap) l := by
  obtain ⟨vs, h1, h2⟩ := h
  obtain ⟨hl, ⟨he, h3⟩ | ⟨g, cp, cur, he, g1, g2, g3, g4, g5, g6⟩⟩ := h1
  · simp at h3
  · simp only [Value.slice.injEq] at he
    obtain ⟨rfl, -, rfl⟩ := he
    have hl' : vs.length = l.length + 1 := by simpa [intE] using hl
    refine ⟨vs.take l.length, ⟨?_, .inr ⟨g, cap, cur, rfl, g1, g2, ?_, g4, g5, ?_⟩⟩, fun k y hy => ?_⟩
    · rw [List.length_take, hl']; show _ = l.length * 1; omega
    · simp at g3; omega
    · rw [← g6, List.take_take]; congr 1; simp [intE]
    · have hk := (List.getElem?_eq_some_iff.1 hy).1
      obtain ⟨cs, h3, h4⟩ := h2 k y (by rw [List.getElem?_append_left hk]; exact hy)
      refine ⟨cs, h3, fun j hj => ?_⟩
      have hj' : j < 1 := hj
      rw [List.getElem?_take_of_lt (by show k * 1 + j < _; omega)]
      exact h4 j hj

def Fam (P : Nat → Prop) (base : Nat) (w : World) (vs : List Value) (ls : List (List Int)) : Prop :=
  vs.length = ls.length ∧ (∀ (k : Nat) v l, vs[k]? = some v → ls[k]? = some l → Own intE (fun _ => False) base 3 w v l) ∧
  (∀ (k : Nat) v b, vs[k]? = some v → v.ownBlock = some b → P b) ∧
  (∀ (j k : Nat) v u b, j ≠ k → vs[j]? = some v → vs[k]? = some u → v.ownBlock = some b → u.ownBlock ≠ some b)

theorem Fam.len {P : Nat → Prop} {base : Nat} {w : World} {vs : List Value} {ls : List (List Int)} (h : Fam P base w vs ls) : vs.length = ls.length := h.1
theorem Fam.own {P : Nat → Prop} {base : Nat} {w : World} {vs : List Value} {ls : List (List Int)} (h : Fam P base w vs ls) {k : Nat} (hk : k < ls.length) : Own intE (fun _ => False) base 3 w (vs[k]'(by rw [h.1]; exact hk)) ls[k] :=
  h.2.1 k _ _ (List.getElem?_eq_getElem _) (List.getElem?_eq_getElem hk)
theorem Fam.blk {P : Nat → Prop} {base : Nat} {w : World} {vs : List Value} {ls : List (List Int)} (h : Fam P base w vs ls) {k : Nat} {v : Value} {b : Nat} (hk : vs[k]? = some v) (hb : v.ownBlock = some b) : base ≤ b ∧ b < w.heap.size := by
  have hk' : k < ls.length := by rw [← h.1]; exact (List.getElem?_eq_some_iff.1 hk).1
  exact (h.2.1 k v _ hk (List.getElem?_eq_getElem hk')).blk hb

theorem Fam.at {P Q : Nat → Prop} {base : Nat} {w w' : World} {vs : List Value} {ls : List (List Int)} (h : Fam P base w vs ls)
    (hw : ∀ b, base ≤ b → b < w.heap.size → P b → w'.heap[b]? = w.heap[b]?) (hQ : ∀ b, b < w.heap.size → P b → Q b) : Fam Q base w' vs ls :=
  ⟨h.1, fun k v l h1 h2 => (h.2.1 k v l h1 h2).at' fun b hb => hw b (h.blk h1 hb).1 (h.blk h1 hb).2 (h.2.2.1 k v b h1 hb), fun k v b h1 h2 => hQ b (h.blk h1 h2).2 (h.2.2.1 k v b h1 h2), h.2.2.2⟩

theorem Fam.app {P : Nat → Prop} {base : Nat} {wm w w' : World} {vs : List Value} {ls : List (List Int)} (h : Fam P base wm vs ls) (hbw : Below wm.heap.size wm w) {j : Nat} {v v' : Value} {l' : List Int}
    (hj : vs[j]? = some v) (hown : Own intE (fun _ => False) base 3 w' v' l') (hk : Kept base wm w w' v v') (hP : P w.heap.size) : Fam P base w' (vs.set j v') (ls.set j l') := by
  have hjl := (List.getElem?_eq_some_iff.1 hj).1
  have hset : ∀ (k : Nat) u, (vs.set j v')[k]? = some u → (k = j ∧ u = v') ∨ (k ≠ j ∧ vs[k]? = some u) := by
    intro k u hu
    rw [List.getElem?_set] at hu
    split at hu
    · rename_i e
      exact .inl ⟨e.symm, by simpa using hu.symm⟩
    · rename_i e; exact .inr ⟨fun h => e h.symm, hu⟩
  have hnb : ∀ b, v'.ownBlock = some b → v.ownBlock = some b ∨ b = w.heap.size := by
    intro b hb
    rcases hk.blk with h1 | h1
    · exact .inl (h1 ▸ hb)
    · rw [h1] at hb; simp at hb; exact .inr hb.symm
  refine ⟨by simp [h.1], fun k u l h1 h2 => ?_, fun k u b h1 h2 => ?_, fun i k u x b hik h1 h2 h3 => ?_⟩
  · rcases hset k u h1 with ⟨rfl, rfl⟩ | ⟨hne, h3⟩
    · rw [List.getElem?_set_self (by rw [← h.1]; exact hjl)] at h2
      simp at h2; subst h2; exact hown
    · rw [List.getElem?_set_ne (fun e => hne e.symm)] at h2
      refine (h.2.1 k u l h3 h2).at' fun b hb => ?_
      have h4 := h.blk h3 hb
      rw [hk.keep b (Nat.lt_of_lt_of_le h4.2 hbw.size) (fun e => h.2.2.2 j k v u b (fun e => hne e.symm) hj h3 e hb), hbw.block b h4.2]
  · rcases hset k u h1 with ⟨rfl, rfl⟩ | ⟨hne, h3⟩
    · rcases hnb b h2 with h4 | h4
      · exact h.2.2.1 _ _ _ hj h4
      · rw [h4]; exact hP
    · exact h.2.2.1 k u b h3 h2
  · have hbs := hbw.size
    rcases hset i u h1 with ⟨rfl, rfl⟩ | ⟨hne, h4⟩ <;> rcases hset k x h2 with ⟨rfl, rfl⟩ | ⟨hne', h5⟩
    · exact absurd rfl hik
    · rcases hnb b h3 with h6 | h6
      · exact h.2.2.2 _ k v x b hik hj h5 h6
      · intro h7; have := (h.blk h5 h7).2; omega
    · intro h7
      rcases hnb b h7 with h6 | h6
      · exact h.2.2.2 _ _ v u b (fun e => hne e.symm) hj h4 h6 h3
      · have := (h.blk h4 h3).2; omega
    · exact h.2.2.2 i k u x b hik h4 h5 h3

theorem Fam.nil (P : Nat → Prop) (base : Nat) (w : World) (n : Nat) : Fam P base w (List.replicate n (.slice none 0 0)) (List.replicate n []) := by
  have hr : ∀ (k : Nat) v, (List.replicate n (Value.slice none 0 0))[k]? = some v → v = .slice none 0 0 := by
    intro k v h; exact (List.mem_replicate.1 (List.mem_of_getElem? h)).2
  refine ⟨by simp, fun k v l h1 h2 => ?_, fun k v b h1 h2 => ?_, fun j k v u b _ h1 h2 h3 => ?_⟩
  · rw [hr k v h1, (List.mem_replicate.1 (List.mem_of_getElem? h2)).2]; exact Own.nil _ _ _ _ _
  · rw [hr k v h1] at h2; simp [Value.ownBlock] at h2
  · rw [hr j v h1] at h3; simp [Value.ownBlock] at h3

theorem RowI.of {T : TypeId} {w : World} {B n : Nat} (h : w.heap[B]? = some (.cells (madeCells #[.int .i64 0] n) T)) : RowI T w B (List.replicate n 0) := by
  unfold RowI Row
  rw [h, madeCells_one, List.map_replicate]
theorem Row.ofS {T : TypeId} {w : World} {B n : Nat} (h : w.heap[B]? = some (.cells (madeCells #[.slice none 0 0] n) T)) : Row T w B (List.replicate n (.slice none 0 0)) := by
  unfold Row
  rw [h, madeCells_one]

/-- All that look holds. -/
structure LookM (h base n : Nat) (ga gr : Value) (Wp : World) (Bs B1 B2 B3 Bm Bw : Nat) (P : Nat → Prop) (wr : World) (F R Fo : List Bool) (M : List Int) (ws : List (List Int)) (tv : Value) (T : List Int) : Prop where
  st : Row 57 wr Bs [ga, gr, .slice (some ⟨B1, 0, none⟩) n n, .slice (some ⟨B2, 0, none⟩) n n, .slice (some ⟨B3, 0, none⟩) n n]
  f : RowB 4 wr B1 F
  r : RowB 4 wr B2 R
  fo : RowB 4 wr B3 Fo
  mi : RowI 3 wr Bm M
  fam : ∃ vs, Row 24 wr Bw vs ∧ Fam P base wr (tv :: vs) (T :: ws)
  bel : Below (h + 1) Wp wr
  hW : Wp.heap.size = h + 1

/-- Where its blocks lie. -/
structure LookB (h base Bs B1 B2 B3 Bm Bw : Nat) : Prop where
  lo : h + 1 ≤ Bs ∧ h + 1 ≤ B1 ∧ h + 1 ≤ B2 ∧ h + 1 ≤ B3 ∧ h + 1 ≤ Bm ∧ h + 1 ≤ Bw
  hi : Bs < base ∧ B1 < base ∧ B2 < base ∧ B3 < base ∧ Bm < base ∧ Bw < base
  s1 : Bs ≠ B1
  s2 : Bs ≠ B2
  s3 : Bs ≠ B3
  sm : Bs ≠ Bm
  sw : Bs ≠ Bw
  n12 : B1 ≠ B2
  n13 : B1 ≠ B3
  n1m : B1 ≠ Bm
  n1w : B1 ≠ Bw
  n23 : B2 ≠ B3
  n2m : B2 ≠ Bm
  n2w : B2 ≠ Bw
  n3m : B3 ≠ Bm
  n3w : B3 ≠ Bw
  nmw : Bm ≠ Bw

section
variable {h base n : Nat} {ga gr : Value} {Wp wr w' : World} {Bs B1 B2 B3 Bm Bw : Nat} {P : Nat → Prop} {F R Fo : List Bool} {M : List Int} {ws : List (List Int)} {tv : Value} {T : List Int}

theorem LookM.lt (H : LookM h base n ga gr Wp Bs B1 B2 B3 Bm Bw P wr F R Fo M ws tv T) : h + 1 ≤ wr.heap.size ∧ Bs < wr.heap.size ∧ B1 < wr.heap.size ∧ B2 < wr.heap.size ∧ B3 < wr.heap.size ∧ Bm < wr.heap.size ∧ Bw < wr.heap.size := by
  obtain ⟨vs, h1, _⟩ := H.fam
  have := H.bel.size
  have := H.hW
  exact ⟨by omega, Row.lt H.st, Row.lt H.f, Row.lt H.r, Row.lt H.fo, Row.lt H.mi, h1.lt⟩

/-- A new block. -/
theorem LookM.alloc (H : LookM h base n ga gr Wp Bs B1 B2 B3 Bm Bw P wr F R Fo M ws tv T) (o : Obj) : LookM h base n ga gr Wp Bs B1 B2 B3 Bm Bw P (wr.alloc o) F R Fo M ws tv T := by
  obtain ⟨vs, h1, h2⟩ := H.fam
  have := H.bel.size
  have := H.hW
  exact ⟨Row.alloc H.st o, RowB.alloc H.f o, RowB.alloc H.r o, RowB.alloc H.fo o, RowI.alloc H.mi o, ⟨vs, h1.alloc o, h2.at (fun b _ hb _ => Below.heap_alloc _ _ _ hb) (fun _ _ h => h)⟩, H.bel.alloc (by omega) o, H.hW⟩
theorem LookM.drew (H : LookM h base n ga gr Wp Bs B1 B2 B3 Bm Bw P wr F R Fo M ws tv T) : LookM h base n ga gr Wp Bs B1 B2 B3 Bm Bw P wr.drew F R Fo M ws tv T := by
  obtain ⟨vs, h1, h2⟩ := H.fam
  exact ⟨H.st, H.f, H.r, H.fo, H.mi, ⟨vs, h1, h2.at (fun _ _ _ _ => rfl) (fun _ _ h => h)⟩, H.bel.drew, H.hW⟩
theorem LookM.drewN (H : LookM h base n ga gr Wp Bs B1 B2 B3 Bm Bw P wr F R Fo M ws tv T) (m : Nat) : LookM h base n ga gr Wp Bs B1 B2 B3 Bm Bw P (wr.drewN m) F R Fo M ws tv T := by
  induction m with
  | zero => exact H
  | succ m ih => exact ih.drew

theorem LookM.famSet (H : LookM h base n ga gr Wp Bs B1 B2 B3 Bm Bw P wr F R Fo M ws tv T) {b : Nat} (hb : b < base) (hne : b ≠ Bw) (o : Nat) (v : Value) : ∃ vs, Row 24 (wr.setCell ⟨b, o, none⟩ v) Bw vs ∧ Fam P base (wr.setCell ⟨b, o, none⟩ v) (tv :: vs) (T :: ws) := by
  obtain ⟨vs, h1, h2⟩ := H.fam
  exact ⟨vs, h1.setOther v hne, h2.at (fun b' h3 _ _ => Below.heap_setCell _ _ _ _ (fun e => by have : b' = b := e; omega)) (fun _ _ h => h)⟩
theorem LookM.setR (H : LookM h base n ga gr Wp Bs B1 B2 B3 Bm Bw P wr F R Fo M ws tv T) (L : LookB h base Bs B1 B2 B3 Bm Bw) (i : Nat) (x : Bool) : LookM h base n ga gr Wp Bs B1 B2 B3 Bm Bw P (wr.setCell ⟨B2, i, none⟩ (.bool x)) F (R.set i x) Fo M ws tv T :=
  ⟨Row.setOther H.st _ L.s2.symm, RowB.setOther H.f _ L.n12.symm, RowB.set H.r i x, RowB.setOther H.fo _ L.n23, RowI.setOther H.mi _ L.n2m, H.famSet L.hi.2.2.1 L.n2w i _, H.bel.setCell (by exact L.lo.2.2.1) _, H.hW⟩
theorem LookM.setF (H : LookM h base n ga gr Wp Bs B1 B2 B3 Bm Bw P wr F R Fo M ws tv T) (L : LookB h base Bs B1 B2 B3 Bm Bw) (i : Nat) (x : Bool) : LookM h base n ga gr Wp Bs B1 B2 B3 Bm Bw P (wr.setCell ⟨B1, i, none⟩ (.bool x)) (F.set i x) R Fo M ws tv T :=
  ⟨Row.setOther H.st _ L.s1.symm, RowB.set H.f i x, RowB.setOther H.r _ L.n12, RowB.setOther H.fo _ L.n13, RowI.setOther H.mi _ L.n1m, H.famSet L.hi.2.1 L.n1w i _, H.bel.setCell (by exact L.lo.2.1) _, H.hW⟩
theorem LookM.setO (H : LookM h base n ga gr Wp Bs B1 B2 B3 Bm Bw P wr F R Fo M ws tv T) (L : LookB h base Bs B1 B2 B3 Bm Bw) (i : Nat) (x : Bool) : LookM h base n ga gr Wp Bs B1 B2 B3 Bm Bw P (wr.setCell ⟨B3, i, none⟩ (.bool x)) F R (Fo.set i x) M ws tv T :=
  ⟨Row.setOther H.st _ L.s3.symm, RowB.setOther H.f _ L.n13.symm, RowB.setOther H.r _ L.n23.symm, RowB.set H.fo i x, RowI.setOther H.mi _ L.n3m, H.famSet L.hi.2.2.2.1 L.n3w i _, H.bel.setCell (by exact L.lo.2.2.2.1) _, H.hW⟩
theorem LookM.setM (H : LookM h base n ga gr Wp Bs B1 B2 B3 Bm Bw P wr F R Fo M ws tv T) (L : LookB h base Bs B1 B2 B3 Bm Bw) (i : Nat) (x : Int) : LookM h base n ga gr Wp Bs B1 B2 B3 Bm Bw P (wr.setCell ⟨Bm, i, none⟩ (.int .i64 x)) F R Fo (M.set i x) ws tv T :=
  ⟨Row.setOther H.st _ L.sm.symm, RowB.setOther H.f _ L.n1m.symm, RowB.setOther H.r _ L.n2m.symm, RowB.setOther H.fo _ L.n3m.symm, RowI.set H.mi i x, H.famSet L.hi.2.2.2.2.1 L.nmw i _, H.bel.setCell (by exact L.lo.2.2.2.2.1) _, H.hW⟩

/-- Memory below base as it was. -/
theorem LookM.rows (H : LookM h base n ga gr Wp Bs B1 B2 B3 Bm Bw P wr F R Fo M ws tv T) (L : LookB h base Bs B1 B2 B3 Bm Bw) (hb : Below base wr w') {P' : Nat → Prop} {ws' : List (List Int)} {tv' : Value} {T' : List Int}
    (hf : ∃ vs, Row 24 w' Bw vs ∧ Fam P' base w' (tv' :: vs) (T' :: ws')) : LookM h base n ga gr Wp Bs B1 B2 B3 Bm Bw P' w' F R Fo M ws' tv' T' :=
  ⟨Row.below H.st hb L.hi.1, RowB.below H.f hb L.hi.2.1, RowB.below H.r hb L.hi.2.2.1, RowB.below H.fo hb L.hi.2.2.2.1, RowI.below H.mi hb L.hi.2.2.2.2.1, hf, H.bel.trans (hb.mono (by have := L.lo.1; have := L.hi.1; omega)), H.hW⟩

/-- An append to what is to be done. -/
theorem LookM.appT (H : LookM h base n ga gr Wp Bs B1 B2 B3 Bm Bw P wr F R Fo M ws tv T) (L : LookB h base Bs B1 B2 B3 Bm Bw) {w : World} (hbw : Below wr.heap.size wr w) {tv' : Value} {T' : List Int}
    (hown : Own intE (fun _ => False) base 3 w' tv' T') (hk : Kept base wr w w' tv tv') (hP : P w.heap.size) (hbase : base ≤ wr.heap.size) : LookM h base n ga gr Wp Bs B1 B2 B3 Bm Bw P w' F R Fo M ws tv' T' := by
  obtain ⟨vs, h1, h2⟩ := H.fam
  have hb : Below base wr w' := (hbw.mono hbase).trans hk.below
  exact H.rows L hb ⟨vs, h1.below hb L.hi.2.2.2.2.2, h2.app hbw (j := 0) (v := tv) rfl hown hk hP⟩
/-- An append to one of those that wait, and its store. -/
theorem LookM.appW (H : LookM h base n ga gr Wp Bs B1 B2 B3 Bm Bw P wr F R Fo M ws tv T) (L : LookB h base Bs B1 B2 B3 Bm Bw) {vs : List Value} (h1 : Row 24 wr Bw vs) (h2 : Fam P base wr (tv :: vs) (T :: ws)) {w : World} (hbw : Below wr.heap.size wr w) {a : Nat} {v v' : Value} {l' : List Int}
    (hv : vs[a]? = some v) (hown : Own intE (fun _ => False) base 3 w' v' l') (hk : Kept base wr w w' v v') (hP : P w.heap.size) (hbase : base ≤ wr.heap.size) :
    LookM h base n ga gr Wp Bs B1 B2 B3 Bm Bw P (w'.setCell ⟨Bw, a, none⟩ v') F R Fo M (ws.set a l') tv T := by
  have hb : Below base wr w' := (hbw.mono hbase).trans hk.below
  have h3 : Fam P base w' (tv :: vs.set a v') (T :: ws.set a l') := h2.app hbw (j := a + 1) (v := v) hv hown hk hP
  have H' := H.rows L hb (P' := P) (ws' := ws.set a l') (tv' := tv) (T' := T) 
  have h4 : Row 24 (w'.setCell ⟨Bw, a, none⟩ v') Bw (vs.set a v') := (h1.below hb L.hi.2.2.2.2.2).set a v'
  have hlo := L.lo
  refine ⟨Row.setOther (Row.below H.st hb L.hi.1) _ L.sw.symm, RowB.setOther (RowB.below H.f hb L.hi.2.1) _ L.n1w.symm, RowB.setOther (RowB.below H.r hb L.hi.2.2.1) _ L.n2w.symm, RowB.setOther (RowB.below H.fo hb L.hi.2.2.2.1) _ L.n3w.symm,
    RowI.setOther (RowI.below H.mi hb L.hi.2.2.2.2.1) _ L.nmw.symm, ⟨vs.set a v', h4, h3.at (fun b h5 _ _ => Below.heap_setCell _ _ _ _ (fun e => ?_)) (fun _ _ h => h)⟩, ?_, H.hW⟩
  · have : b = Bw := e
    have := L.hi.2.2.2.2.2; omega
  · exact (H.bel.trans (hb.mono (by have := L.hi.1; omega))).setCell (by exact L.lo.2.2.2.2.2) _
theorem LookM.mem (H : LookM h base n ga gr Wp Bs B1 B2 B3 Bm Bw P wr F R Fo M ws tv T) {Q : Nat → Prop} (hQ : ∀ b, b < wr.heap.size → P b → Q b) : LookM h base n ga gr Wp Bs B1 B2 B3 Bm Bw Q wr F R Fo M ws tv T := by
  obtain ⟨vs, h1, h2⟩ := H.fam
  exact ⟨H.st, H.f, H.r, H.fo, H.mi, ⟨vs, h1, h2.at (fun _ _ _ _ => rfl) hQ⟩, H.bel, H.hW⟩
/-- The last one is taken off what is to be done. -/
theorem LookM.popT {ao : Option Addr} {cap : Nat} {x : Int} (H : LookM h base n ga gr Wp Bs B1 B2 B3 Bm Bw P wr F R Fo M ws (.slice ao (T ++ [x]).length cap) (T ++ [x])) : LookM h base n ga gr Wp Bs B1 B2 B3 Bm Bw P wr F R Fo M ws (.slice ao T.length cap) T := by
  obtain ⟨vs, h1, h2, h3, h4, h5⟩ := H.fam
  have hob : (Value.slice ao T.length cap).ownBlock = (Value.slice ao (T ++ [x]).length cap).ownBlock := by cases ao <;> rfl
  refine ⟨H.st, H.f, H.r, H.fo, H.mi, ⟨vs, h1, by simpa using h2, fun k v l g1 g2 => ?_, fun k v b g1 g2 => ?_, fun j k v u b hjk g1 g2 g3 => ?_⟩, H.bel, H.hW⟩
  · cases k with
    | zero =>
      simp only [List.getElem?_cons_zero, Option.some.injEq] at g1 g2
      subst g1; subst g2
      exact (h3 0 _ _ rfl rfl).front
    | succ k => exact h3 (k + 1) v l g1 g2
  · cases k with
    | zero =>
      simp only [List.getElem?_cons_zero, Option.some.injEq] at g1
      subst g1
      rw [hob] at g2
      exact h4 0 _ b rfl g2
    | succ k => exact h4 (k + 1) v b g1 g2
  · have key : ∀ (i : Nat) y, (Value.slice ao T.length cap :: vs)[i]? = some y → ∃ z, (Value.slice ao (T ++ [x]).length cap :: vs)[i]? = some z ∧ z.ownBlock = y.ownBlock := by
      intro i y hy
      cases i with
      | zero =>
        simp only [List.getElem?_cons_zero, Option.some.injEq] at hy
        subst hy; exact ⟨_, rfl, hob.symm⟩
      | succ i => exact ⟨y, hy, rfl⟩
    obtain ⟨z1, k1, k2⟩ := key j v g1
    obtain ⟨z2, k3, k4⟩ := key k u g2
    rw [← k4]
    exact h5 j k z1 z2 b hjk k1 k3 (by rw [k2]; exact g3)
end

/-- A state, as a value. -/
def StateV (S : Nat → Prop) (w : World) (v : Value) (g : Prog) : Prop :=
  ∃ va vb vf vr vo, v = .agg #[va, vb, vf, vr, vo] ∧ ProgV S w (.agg #[va, vb]) g ∧ Seq boolE S w vf (factsL g) ∧ Seq boolE S w vr (hasL g) ∧ Seq boolE S w vo (followsL g)
end Go.Proofs.Ytdbennmbbmoflaa
