/-
  The base of this seat's proofs: how slices, and the structs in them, are held in memory, as plain lists; what a call leaves behind.
-/
import Derived.Test.YtckkjjiaecnciaaGreatRows
import Derived.WalkKit
import Derived.WalkSpells
import Derived.WalkLawsBesides
import Derived.Lib.Hide
import Derived.Maps.AppendAt
import Derived.Laws.AppendOwnNone
import Derived.Deep.OwnRows
namespace Go.Proofs.YtckkjjiaecnciaaGreat
open Go Go.RowKit

def IntOK (n : Int) : Prop := -9223372036854775808 ≤ n ∧ n ≤ 9223372036854775807

theorem below_drewN {B : Nat} {w w' : World} (h : Below B w w') (n : Nat) : Below B w (w'.drewN n) := by
  induction n with
  | zero => exact h
  | succ n ih => exact ih.drew

/-- How an element lies in a slice: its cells, one behind the other. -/
structure Elt (α : Type) where
  sz : Nat
  pos : 0 < sz
  R : (Nat → Prop) → World → α → List Value → Prop
  len : ∀ {S : Nat → Prop} {w : World} {x : α} {cs : List Value}, R S w x cs → cs.length = sz
  one : ∀ {S : Nat → Prop} {w : World} {x : α} {cs : List Value}, R S w x cs → ∀ u ∈ cs, u.oneCell' = true
  mono : ∀ {S T : Nat → Prop} {w w' : World} {x : α} {cs : List Value}, R S w x cs → (∀ b, S b → b < w.heap.size → T b) →
    (∀ b, S b → b < w.heap.size → w'.heap[b]? = w.heap[b]?) → R T w' x cs

/-- The elements lie at an address. -/
def SeqAt {α : Type} (E : Elt α) (S : Nat → Prop) (w : World) (ao : Option Addr) (xs : List α) : Prop :=
  ∀ k x, xs[k]? = some x → ∃ b off cs, ao = some ⟨b, off, none⟩ ∧ S b ∧ b < w.heap.size ∧ E.R S w x cs ∧
    ∀ j, j < E.sz → w.cell? ⟨b, off + (k * E.sz + j), none⟩ = cs[j]?

/-- A slice value is a list. -/
def Seq {α : Type} (E : Elt α) (S : Nat → Prop) (w : World) (v : Value) (xs : List α) : Prop :=
  ∃ ao cap, v = .slice ao xs.length cap ∧ xs.length ≤ cap ∧ cap ≤ maxLen ∧ xs.length ≤ 140737488355328 ∧ (ao = none → cap = 0) ∧ SeqAt E S w ao xs

theorem SeqAt.mono {α : Type} {E : Elt α} {S T : Nat → Prop} {w w' : World} {ao : Option Addr} {xs : List α} (h : SeqAt E S w ao xs)
    (hT : ∀ b, S b → b < w.heap.size → T b) (hw : ∀ b, S b → b < w.heap.size → w'.heap[b]? = w.heap[b]?) : SeqAt E T w' ao xs := by
  intro k x hx
  obtain ⟨b, off, cs, h1, h2, h3, h4, h5⟩ := h k x hx
  have hb := hw b h2 h3
  refine ⟨b, off, cs, h1, hT b h2 h3, ?_, E.mono h4 hT hw, fun j hj => ?_⟩
  · rcases Nat.lt_or_ge b w'.heap.size with hlt | hge
    · exact hlt
    · rw [Array.getElem?_eq_none hge] at hb
      rw [Array.getElem?_eq_getElem h3] at hb
      exact absurd hb (by simp)
  · rw [← h5 j hj]
    exact World.cell?_of_block (w := w) hb

theorem Seq.mono {α : Type} {E : Elt α} {S T : Nat → Prop} {w w' : World} {v : Value} {xs : List α} (h : Seq E S w v xs)
    (hT : ∀ b, S b → b < w.heap.size → T b) (hw : ∀ b, S b → b < w.heap.size → w'.heap[b]? = w.heap[b]?) : Seq E T w' v xs := by
  obtain ⟨ao, cap, h1, h2, h3, h4, h5, h6⟩ := h
  exact ⟨ao, cap, h1, h2, h3, h4, h5, h6.mono hT hw⟩

/-- Behind a call that leaves old memory alone. -/
theorem Seq.below {α : Type} {E : Elt α} {S : Nat → Prop} {w w' : World} {v : Value} {xs : List α} {B : Nat} (h : Seq E S w v xs)
    (hb : Below B w w') (hB : ∀ b, S b → b < w.heap.size → b < B) : Seq E S w' v xs :=
  h.mono (fun _ h _ => h) fun b hS hlt => hb.block b (hB b hS hlt)

theorem SeqAt.below {α : Type} {E : Elt α} {S : Nat → Prop} {w w' : World} {ao : Option Addr} {xs : List α} {B : Nat} (h : SeqAt E S w ao xs)
    (hb : Below B w w') (hB : ∀ b, S b → b < w.heap.size → b < B) : SeqAt E S w' ao xs :=
  h.mono (fun _ h _ => h) fun b hS hlt => hb.block b (hB b hS hlt)

theorem Seq.at {α : Type} {E : Elt α} {S : Nat → Prop} {w w' : World} {v : Value} {xs : List α} (h : Seq E S w v xs)
    (hb : Below w.heap.size w w') : Seq E S w' v xs := h.below hb fun _ _ h => h

theorem Seq.way {B : Nat} {w w' : World} (hb : Below B w w' := by
      repeat (first | exact Below.refl _ _ | assumption | refine Below.drew ?_ | refine below_drewN ?_ _ | refine Below.alloc ?_ (by first | omega | (simp only [World.size_alloc, World.size_drew, World.size_setCell, World.heap_drewN]; omega)) _)) : Below B w w' := hb

/-- To a later world: the way there by itself. -/
theorem Seq.to {α : Type} {E : Elt α} {S : Nat → Prop} {w w' : World} {v : Value} {xs : List α} (h : Seq E S w v xs)
    (hb : Below w.heap.size w w' := by
      repeat (first | exact Below.refl _ _ | assumption | refine Below.drew ?_ | refine below_drewN ?_ _ | refine Below.alloc ?_ (by first | omega | (simp only [World.size_alloc, World.size_drew, World.size_setCell, World.heap_drewN]; omega)) _)) :
    Seq E S w' v xs := h.at hb

/-- What stands in new memory, or where it stood. -/
def Fr (S : Nat → Prop) (w : World) : Nat → Prop := fun b => S b ∨ w.heap.size ≤ b

theorem Seq.nil {α : Type} (E : Elt α) (S : Nat → Prop) (w : World) : Seq E S w (.slice none 0 0) ([] : List α) :=
  ⟨none, 0, rfl, Nat.le_refl _, by simp [maxLen], by simp, fun _ => rfl, by intro k x h; simp at h⟩

/-! ### The kinds of elements -/
def intE : Elt Int where
  sz := 1
  pos := by decide
  R := fun _ _ n cs => cs = [.int .i64 n] ∧ IntOK n
  len := by rintro _ _ _ _ ⟨rfl, _⟩; rfl
  one := by rintro _ _ _ _ ⟨rfl, _⟩ u hu; simp at hu; subst hu; rfl
  mono := fun h _ _ => h

def boolE : Elt Bool where
  sz := 1
  pos := by decide
  R := fun _ _ n cs => cs = [.bool n]
  len := by rintro _ _ _ _ rfl; rfl
  one := by rintro _ _ _ _ rfl u hu; simp at hu; subst hu; rfl
  mono := fun h _ _ => h

structure Cell where
  kind : Int
  name : ByteArray
  n : Int

def cellE : Elt Cell where
  sz := 3
  pos := by decide
  R := fun _ _ c cs => cs = [.int .i64 c.kind, .string c.name, .int .i64 c.n] ∧ IntOK c.kind ∧ IntOK c.n ∧ c.name.size ≤ 140737488355328
  len := by rintro _ _ _ _ ⟨rfl, _⟩; rfl
  one := by rintro _ _ _ _ ⟨rfl, _⟩ u hu; simp at hu; rcases hu with rfl | rfl | rfl <;> rfl
  mono := fun h _ _ => h

/-- '[2]int' as an element. -/
def pairE : Elt (Int × Int) where
  sz := 2
  pos := by decide
  R := fun _ _ p cs => cs = [.int .i64 p.1, .int .i64 p.2] ∧ IntOK p.1 ∧ IntOK p.2
  len := by rintro _ _ _ _ ⟨rfl, _⟩; rfl
  one := by rintro _ _ _ _ ⟨rfl, _⟩ u hu; simp at hu; rcases hu with rfl | rfl <;> rfl
  mono := fun h _ _ => h

/-- A slice as an element. -/
def seqE {α : Type} (E : Elt α) : Elt (List α) where
  sz := 1
  pos := by decide
  R := fun S w xs cs => ∃ v, cs = [v] ∧ Seq E S w v xs
  len := by rintro _ _ _ _ ⟨v, rfl, _⟩; rfl
  one := by rintro _ _ _ _ ⟨v, rfl, ⟨ao, cap, rfl, _⟩⟩ u hu; simp at hu; subst hu; rfl
  mono := by rintro S T w w' xs _ ⟨v, rfl, h⟩ hT hw; exact ⟨v, rfl, h.mono hT hw⟩

structure Rule where
  head : Int
  pos : List Int
  neg : List Int
deriving DecidableEq

def ruleE : Elt Rule where
  sz := 3
  pos := by decide
  R := fun S w r cs => ∃ p n, cs = [.int .i64 r.head, p, n] ∧ IntOK r.head ∧ Seq intE S w p r.pos ∧ Seq intE S w n r.neg
  len := by rintro _ _ _ _ ⟨p, n, rfl, _⟩; rfl
  one := by
    rintro _ _ _ _ ⟨p, n, rfl, _, ⟨ao, cap, rfl, _⟩, ⟨ao', cap', rfl, _⟩⟩ u hu
    simp at hu; rcases hu with rfl | rfl | rfl <;> rfl
  mono := by
    rintro S T w w' xs _ ⟨p, n, rfl, h0, h1, h2⟩ hT hw
    exact ⟨p, n, rfl, h0, h1.mono hT hw, h2.mono hT hw⟩

structure Prog where
  atoms : List (List Cell)
  rules : List Rule

/-- A program, as a value. -/
def ProgV (S : Nat → Prop) (w : World) (v : Value) (g : Prog) : Prop :=
  ∃ a r, v = .agg #[a, r] ∧ Seq (seqE cellE) S w a g.atoms ∧ Seq ruleE S w r g.rules

theorem ProgV.mono {S T : Nat → Prop} {w w' : World} {v : Value} {g : Prog} (h : ProgV S w v g)
    (hT : ∀ b, S b → b < w.heap.size → T b) (hw : ∀ b, S b → b < w.heap.size → w'.heap[b]? = w.heap[b]?) : ProgV T w' v g := by
  obtain ⟨a, r, rfl, h1, h2⟩ := h
  exact ⟨a, r, rfl, h1.mono hT hw, h2.mono hT hw⟩

/-! ### One element, as the walk reads it -/
theorem SeqAt.int {S : Nat → Prop} {w : World} {ao : Option Addr} {xs : List Int} (h : SeqAt intE S w ao xs) {k : Nat} (hk : k < xs.length) :
    ∃ b off, ao = some ⟨b, off, none⟩ ∧ S b ∧ b < w.heap.size ∧ w.cell? ⟨b, off + k, none⟩ = some (.int .i64 xs[k]) ∧ IntOK xs[k] := by
  obtain ⟨b, off, cs, h1, h2, h3, ⟨rfl, h4⟩, h5⟩ := h k _ (List.getElem?_eq_getElem hk)
  have := h5 0 (by decide)
  simp only [intE, Nat.mul_one, Nat.add_zero] at this
  exact ⟨b, off, h1, h2, h3, this, h4⟩

theorem SeqAt.bool {S : Nat → Prop} {w : World} {ao : Option Addr} {xs : List Bool} (h : SeqAt boolE S w ao xs) {k : Nat} (hk : k < xs.length) :
    ∃ b off, ao = some ⟨b, off, none⟩ ∧ S b ∧ b < w.heap.size ∧ w.cell? ⟨b, off + k, none⟩ = some (.bool xs[k]) := by
  obtain ⟨b, off, cs, h1, h2, h3, rfl, h5⟩ := h k _ (List.getElem?_eq_getElem hk)
  have := h5 0 (by decide)
  simp only [boolE, Nat.mul_one, Nat.add_zero] at this
  exact ⟨b, off, h1, h2, h3, this⟩

theorem SeqAt.seq {α : Type} {E : Elt α} {S : Nat → Prop} {w : World} {ao : Option Addr} {xs : List (List α)} (h : SeqAt (seqE E) S w ao xs) {k : Nat} (hk : k < xs.length) :
    ∃ b off ao' cap', ao = some ⟨b, off, none⟩ ∧ S b ∧ b < w.heap.size ∧ w.cell? ⟨b, off + k, none⟩ = some (.slice ao' xs[k].length cap') ∧ Seq E S w (.slice ao' xs[k].length cap') xs[k] := by
  obtain ⟨b, off, cs, h1, h2, h3, ⟨v, rfl, hv⟩, h5⟩ := h k _ (List.getElem?_eq_getElem hk)
  obtain ⟨ao', cap', rfl, h4⟩ := id hv
  have := h5 0 (by decide : (0 : Nat) < 1)
  simp only [seqE, Nat.mul_one, Nat.add_zero] at this
  exact ⟨b, off, ao', cap', h1, h2, h3, this, hv⟩

theorem SeqAt.cell {S : Nat → Prop} {w : World} {ao : Option Addr} {xs : List Cell} (h : SeqAt cellE S w ao xs) {k : Nat} (hk : k < xs.length) :
    ∃ b off, ao = some ⟨b, off, none⟩ ∧ S b ∧ b < w.heap.size ∧ w.cell? ⟨b, off + k * 3, none⟩ = some (.int .i64 xs[k].kind) ∧
      w.cell? ⟨b, off + k * 3 + 1, none⟩ = some (.string xs[k].name) ∧ w.cell? ⟨b, off + k * 3 + 2, none⟩ = some (.int .i64 xs[k].n) ∧
      IntOK xs[k].kind ∧ IntOK xs[k].n ∧ xs[k].name.size ≤ 140737488355328 := by
  obtain ⟨b, off, cs, h1, h2, h3, ⟨rfl, h4⟩, h5⟩ := h k _ (List.getElem?_eq_getElem hk)
  exact ⟨b, off, h1, h2, h3, h5 0 (by decide), h5 1 (by decide), h5 2 (by decide), h4⟩

theorem SeqAt.rule {S : Nat → Prop} {w : World} {ao : Option Addr} {xs : List Rule} (h : SeqAt ruleE S w ao xs) {k : Nat} (hk : k < xs.length) :
    ∃ b off pa pc na nc, ao = some ⟨b, off, none⟩ ∧ S b ∧ b < w.heap.size ∧ w.cell? ⟨b, off + k * 3, none⟩ = some (.int .i64 xs[k].head) ∧
      w.cell? ⟨b, off + k * 3 + 1, none⟩ = some (.slice pa xs[k].pos.length pc) ∧ w.cell? ⟨b, off + k * 3 + 2, none⟩ = some (.slice na xs[k].neg.length nc) ∧
      IntOK xs[k].head ∧ Seq intE S w (.slice pa xs[k].pos.length pc) xs[k].pos ∧ Seq intE S w (.slice na xs[k].neg.length nc) xs[k].neg := by
  obtain ⟨b, off, cs, h1, h2, h3, ⟨p, n, rfl, h4, hp, hn⟩, h5⟩ := h k _ (List.getElem?_eq_getElem hk)
  obtain ⟨pa, pc, rfl, hp'⟩ := id hp
  obtain ⟨na, nc, rfl, hn'⟩ := id hn
  exact ⟨b, off, pa, pc, na, nc, h1, h2, h3, h5 0 (by decide), h5 1 (by decide), h5 2 (by decide), h4, hp, hn⟩

theorem SeqAt.pair {S : Nat → Prop} {w : World} {ao : Option Addr} {xs : List (Int × Int)} (h : SeqAt pairE S w ao xs) {k : Nat} (hk : k < xs.length) :
    ∃ b off, ao = some ⟨b, off, none⟩ ∧ S b ∧ b < w.heap.size ∧ w.cell? ⟨b, off + k * 2, none⟩ = some (.int .i64 xs[k].1) ∧
      w.cell? ⟨b, off + k * 2 + 1, none⟩ = some (.int .i64 xs[k].2) ∧ IntOK xs[k].1 ∧ IntOK xs[k].2 := by
  obtain ⟨b, off, cs, h1, h2, h3, ⟨rfl, h4⟩, h5⟩ := h k _ (List.getElem?_eq_getElem hk)
  exact ⟨b, off, h1, h2, h3, h5 0 (by decide), h5 1 (by decide), h4⟩

/-! ### What a call leaves -/
/-- It hands a known value back; old memory is as it was. -/
def RetV (v : Value) (w : World) (e : Ending) (w' : World) : Prop := e = .returned v ∧ Below w.heap.size w w'

/-- It hands a known value back, and does nothing. -/
def PureV (v : Value) (w : World) (e : Ending) (w' : World) : Prop := e = .returned v ∧ w = w'

/-- It hands a known value back, and does nothing but draw. -/
def Drew (w w' : World) : Prop := ∃ n, w' = w.drewN n
theorem Drew.refl (w : World) : Drew w w := ⟨0, rfl⟩
theorem Drew.drewN {w w' : World} (h : Drew w w') (n : Nat) : Drew w (w'.drewN n) := by
  obtain ⟨m, rfl⟩ := h
  exact ⟨m + n, by rw [World.drewN_drewN]⟩
theorem Drew.of (w : World) (n : Nat) : Drew w (w.drewN n) := ⟨n, rfl⟩
def QuietV (v : Value) (w : World) (e : Ending) (w' : World) : Prop := e = .returned v ∧ Drew w w'

theorem ret_eq {a b : Value} (h : a = b) : Ending.returned a = .returned b := by rw [h]
theorem ret_bool {a b : Bool} (h : a = b) : Ending.returned (.bool a) = .returned (.bool b) := by rw [h]
theorem ret_int {k : IntKind} {a b : Int} (h : a = b) : Ending.returned (.int k a) = .returned (.int k b) := by rw [h]

/-- It hands a value back of which something holds; old memory is as it was. -/
def Ret (P : Value → World → Prop) (w : World) (e : Ending) (w' : World) : Prop := ∃ v, e = .returned v ∧ Below w.heap.size w w' ∧ P v w'

/-! ### A slice that the function itself makes -/
/-- A row of its own: v has the elements xs, in a block from base on that it may write. -/
def Own {α : Type} (E : Elt α) (S : Nat → Prop) (base : Nat) (e : TypeId) (w : World) (v : Value) (xs : List α) : Prop :=
  ∃ vs, w.ownsRow base e E.sz v xs.length vs ∧ ∀ k x, xs[k]? = some x → ∃ cs, E.R (fun b => S b ∧ v.ownBlock ≠ some b) w x cs ∧ ∀ j, j < E.sz → vs[k * E.sz + j]? = cs[j]?

theorem Own.nil {α : Type} (E : Elt α) (S : Nat → Prop) (base : Nat) (e : TypeId) (w : World) : Own E S base e w (.slice none 0 0) ([] : List α) :=
  ⟨[], World.ownsRow_nil _ _ _ _, by intro k x h; simp at h⟩

/-- '[]T{}', as the function makes it. -/
theorem Own.lit0 {α : Type} {E : Elt α} {S : Nat → Prop} {base : Nat} {e : TypeId} {w : World} {B : Nat} {xs : List α} (hB : B = w.heap.size) (hb : base ≤ B) (hx : xs = []) :
    Own E S base e (w.alloc (.cells #[] e)) (.slice (some ⟨B, 0, none⟩) 0 0) xs := by
  subst hB; subst hx
  exact ⟨[], World.ownsRow_made w #[] 0 hb (by simp [maxLen]) (by simp), by intro k x h; simp at h⟩

/-- The elements of which something holds. -/
def fltL {α : Type} (f : α → Bool) (l : List α) : List α := l.filter f
theorem fltL_nil {α : Type} (f : α → Bool) : fltL f [] = [] := rfl
theorem fltL_len {α : Type} (f : α → Bool) (l : List α) : (fltL f l).length ≤ l.length := List.length_filter_le _ _
theorem fltL_yes {α : Type} {f : α → Bool} {l : List α} {k : Nat} (hk : k < l.length) (h : f l[k] = true) : fltL f (l.take (k+1)) = fltL f (l.take k) ++ [l[k]] := by
  unfold fltL
  rw [List.take_succ_eq_append_getElem hk, List.filter_append]; simp [h]
theorem fltL_no {α : Type} {f : α → Bool} {l : List α} {k : Nat} (hk : k < l.length) (h : f l[k] = false) : fltL f (l.take (k+1)) = fltL f (l.take k) := by
  unfold fltL
  rw [List.take_succ_eq_append_getElem hk, List.filter_append]; simp [h]

theorem own_shape {w : World} {base : Nat} {e : TypeId} {sz : Nat} {v : Value} {n : Nat} {vs : List Value} (h : w.ownsRow base e sz v n vs) :
    ∃ ao cap, v = .slice ao n cap ∧ n ≤ cap ∧ cap ≤ maxLen ∧ (ao = none → cap = 0) := by
  obtain ⟨_, ⟨rfl, rfl⟩ | ⟨g, cap, cur, rfl, _, _, h1, h2, _⟩⟩ := h
  · exact ⟨none, 0, rfl, Nat.le_refl _, by simp [maxLen], fun _ => rfl⟩
  · exact ⟨_, cap, rfl, h1, h2, by simp⟩

theorem own_cell {w : World} {base : Nat} {e : TypeId} {sz : Nat} {v : Value} {n : Nat} {vs : List Value} (h : w.ownsRow base e sz v n vs) {i : Nat} (hi : i < n * sz) :
    ∃ g cap, v = .slice (some ⟨g, 0, none⟩) n cap ∧ base ≤ g ∧ g < w.heap.size ∧ w.cell? ⟨g, i, none⟩ = vs[i]? ∧ (∀ j, w.frozen? ⟨g, j, none⟩ = false) := by
  obtain ⟨hl, ⟨rfl, rfl⟩ | ⟨g, cap, cur, rfl, h0, h1, h2, h3, h4, h5⟩⟩ := h
  · omega
  · refine ⟨g, cap, rfl, h0, ?_, ?_, ?_⟩
    · rcases Nat.lt_or_ge g w.heap.size with hlt | hge
      · exact hlt
      · rw [Array.getElem?_eq_none hge] at h1; simp at h1
    · simp only [World.cell?, h1]
      rw [← h5, List.getElem?_take_of_lt hi]
      simp
    · intro j
      simp [World.frozen?, h1]

theorem ownsRow_at {w w' : World} {base : Nat} {e : TypeId} {sz : Nat} {v : Value} {n : Nat} {vs : List Value} (h : w.ownsRow base e sz v n vs)
    (hw : ∀ k, v.ownBlock = some k → w'.heap[k]? = w.heap[k]?) : w'.ownsRow base e sz v n vs := by
  obtain ⟨hl, ⟨rfl, rfl⟩ | ⟨g, cap, cur, rfl, h0, h1, h2⟩⟩ := h
  · exact ⟨hl, .inl ⟨rfl, rfl⟩⟩
  · exact ⟨hl, .inr ⟨g, cap, cur, rfl, h0, by rw [hw g rfl]; exact h1, h2⟩⟩

theorem Own.move {α : Type} {E : Elt α} {S : Nat → Prop} {base : Nat} {e : TypeId} {w w' : World} {v : Value} {xs : List α} (h : Own E S base e w v xs)
    (hw : Below w.heap.size w w') : Own E S base e w' v xs := by
  obtain ⟨vs, h1, h2⟩ := h
  refine ⟨vs, ownsRow_at h1 fun k hk => hw.block k (h1.lt k hk).2, fun k x hx => ?_⟩
  obtain ⟨cs, h3, h4⟩ := h2 k x hx
  exact ⟨cs, E.mono h3 (fun _ h _ => h) (fun b _ hb => hw.block b hb), h4⟩

/-- Told to others: a row of one's own is a slice, in new memory or where its elements stood. -/
theorem Own.seq {α : Type} {E : Elt α} {S : Nat → Prop} {base : Nat} {e : TypeId} {w : World} {v : Value} {xs : List α} (h : Own E S base e w v xs)
    (hl : xs.length ≤ 140737488355328) {T : Nat → Prop} (hT : ∀ b, b < w.heap.size → S b ∨ base ≤ b → T b) : Seq E T w v xs := by
  obtain ⟨vs, h1, h2⟩ := h
  obtain ⟨ao, cap, rfl, h3, h4, h4'⟩ := own_shape h1
  refine ⟨ao, cap, rfl, h3, h4, hl, h4', fun k x hx => ?_⟩
  have hk : k < xs.length := (List.getElem?_eq_some_iff.1 hx).1
  obtain ⟨cs, h5, h6⟩ := h2 k x hx
  have hbnd : ∀ j, j < E.sz → k * E.sz + j < xs.length * E.sz := by
    intro j hj
    calc k * E.sz + j < k * E.sz + E.sz := by omega
      _ = (k + 1) * E.sz := by rw [Nat.add_mul, Nat.one_mul]
      _ ≤ xs.length * E.sz := Nat.mul_le_mul_right _ hk
  obtain ⟨g, cap', hv, hg, hlt, -, -⟩ := own_cell h1 (hbnd 0 E.pos)
  refine ⟨g, 0, cs, by simpa using congrArg (fun v : Value => match v with | .slice a _ _ => a | _ => none) hv, hT g hlt (.inr hg), hlt, E.mono h5 (fun b hb hlt => hT b hlt (.inl hb.1)) (fun _ _ _ => rfl), fun j hj => ?_⟩
  obtain ⟨g', cap'', hv', _, _, hc, _⟩ := own_cell h1 (hbnd j hj)
  rw [hv] at hv'
  simp only [Value.slice.injEq, Option.some.injEq, Addr.mk.injEq] at hv'
  obtain ⟨⟨rfl, _⟩, _⟩ := hv'
  rw [Nat.zero_add, hc, h6 j hj]

theorem chunk_lt {k n sz j : Nat} (hk : k < n) (hj : j < sz) : k * sz + j < n * sz := by
  calc k * sz + j < k * sz + sz := by omega
    _ = (k + 1) * sz := by rw [Nat.add_mul, Nat.one_mul]
    _ ≤ n * sz := Nat.mul_le_mul_right _ hk

/-- What an append does to a row of one's own: wm is the world before what is appended was made. -/
theorem own_append {α : Type} {E : Elt α} {S Sy : Nat → Prop} {base : Nat} {e : TypeId} {wm w w' : World} {v v' : Value} {xs ys : List α} {vs news : List Value}
    (hv1 : wm.ownsRow base e E.sz v xs.length vs) (hv2 : ∀ k x, xs[k]? = some x → ∃ cs, E.R (fun b => S b ∧ v.ownBlock ≠ some b) wm x cs ∧ ∀ j, j < E.sz → vs[k * E.sz + j]? = cs[j]?)
    (hbw : Below wm.heap.size wm w) (hS : ∀ b, Sy b → b < w.heap.size → S b ∧ (b < base ∨ wm.heap.size ≤ b))
    (hys : ∀ k y, ys[k]? = some y → ∃ cs, E.R Sy w y cs ∧ ∀ j, j < E.sz → news[k * E.sz + j]? = cs[j]?)
    (hown' : w'.ownsRow base e E.sz v' (xs.length + ys.length) (vs ++ news)) (hgrow : w.grownBy w' v.ownBlock) (hat : v'.ownBlock = v.ownBlock ∨ v'.ownBlock = some w.heap.size) :
    Own E S base e w' v' (xs ++ ys) := by
  have hlt := hv1.lt
  refine ⟨vs ++ news, by simpa using hown', fun k x hx => ?_⟩
  have hne : ∀ b, b < w.heap.size → v.ownBlock ≠ some b → v'.ownBlock ≠ some b := by
    intro b hb h1 h2
    rcases hat with h | h
    · exact h1 (h ▸ h2)
    · rw [h] at h2; simp at h2; omega
  have hkeep : ∀ b, v.ownBlock ≠ some b → b < w.heap.size → w'.heap[b]? = w.heap[b]? := fun b hb hlt' => hgrow.block b hlt' (fun e => hb e.symm)
  rcases Nat.lt_or_ge k xs.length with hk | hk
  · rw [List.getElem?_append_left hk] at hx
    obtain ⟨cs, h1, h2⟩ := hv2 k x hx
    refine ⟨cs, E.mono h1 (fun b hb hlt' => ⟨hb.1, hne b (Nat.lt_of_lt_of_le hlt' hbw.size) hb.2⟩) (fun b hb hlt' => ?_), fun j hj => ?_⟩
    · rw [hkeep b hb.2 (Nat.lt_of_lt_of_le hlt' hbw.size), hbw.block b hlt']
    · rw [List.getElem?_append_left (by rw [hv1.1]; exact chunk_lt hk hj), h2 j hj]
  · rw [List.getElem?_append_right hk] at hx
    obtain ⟨cs, h1, h2⟩ := hys _ x hx
    have hav : ∀ b, Sy b → b < w.heap.size → v.ownBlock ≠ some b := by
      intro b hb hlt' h
      have := hlt b h
      have := (hS b hb hlt').2
      omega
    refine ⟨cs, E.mono h1 (fun b hb hlt' => ⟨(hS b hb hlt').1, hne b hlt' (hav b hb hlt')⟩) (fun b hb hlt' => hkeep b (hav b hb hlt') hlt'), fun j hj => ?_⟩
    have hlen : vs.length = xs.length * E.sz := hv1.1
    have : xs.length * E.sz ≤ k * E.sz := Nat.mul_le_mul_right _ hk
    rw [List.getElem?_append_right (by omega), hlen, ← h2 j hj]
    congr 1
    rw [Nat.sub_mul]
    omega

section
variable {P : Program} {ops : Array Oper} {rest : List Oper} {o : Oper} {a : Act} {Q : Exit → Act → World → Prop}

/-- 'append(v, x)', v a row of one's own, x one element, that was laid aside: wm is the world before x was made. -/
theorem wpList_app1 {α : Type} {E : Elt α} {S Sy : Nat → Prop} {w wm : World} (hgd : o.guard = none) (s x : Operand) (t : TypeId)
    (ho : o.op = .call { callee := .builtin .append, args := #[s, x], argTypes := #[t, t] })
    {base : Nat} {e : TypeId} {z : Value} {bytes : Nat} (ht : P.underlying t = some (.slice e)) (hi : (P.info? e).map (fun i => (i.zero, i.size, i.bytes)) = some (some z, E.sz, bytes))
    (hzs : z.cells.size = E.sz) {v : Value} {xs : List α} (hs : a.eval s = v) (hown : Own E S base e wm v xs) (hbw : Below wm.heap.size wm w)
    (ad : Addr) (c : Nat) (hx : a.eval x = .slice (some ad) 1 c) {y : α} {cs : List Value} (hy : E.R Sy w y cs) (hS : ∀ b, Sy b → b < w.heap.size → S b ∧ (b < base ∨ wm.heap.size ≤ b))
    (hcs : ∀ j, j < E.sz → w.cell? (ad.add j) = cs[j]?)
    (hbytes : (xs.length + 1) * bytes ≤ 140737488355328) (h63 : xs.length + 1 ≤ maxLen) (hbase : base ≤ wm.heap.size)
    (h : ∀ ao cap w', Own E S base e w' (.slice ao (xs.length + 1) cap) (xs ++ [y]) → w.grownBy w' v.ownBlock → (∀ k, v.ownBlock = some k → base ≤ k ∧ k < wm.heap.size) → ((Value.slice ao (xs.length + 1) cap).ownBlock = v.ownBlock ∨ (Value.slice ao (xs.length + 1) cap).ownBlock = some w.heap.size) → wpList P ops Q rest (a.put o.dst (.slice ao (xs.length + 1) cap)) w') : wpList P ops Q (o :: rest) a w := by
  obtain ⟨i, hi1, hz0, hz1, hz2⟩ := info_parts hi
  obtain ⟨vs, hv1, hv2⟩ := hown
  have hlt := hv1.lt
  have hwb : ∀ k, v.ownBlock = some k → w.heap[k]? = wm.heap[k]? := fun k hk => hbw.block k (hlt k hk).2
  have hlen := E.len hy
  refine wpList_append_own_at w hgd s x t ho base e i z E.sz bytes ht hi1 hz0 hz1 hz2 hzs E.pos v xs.length vs hs (ownsRow_at hv1 hwb) ad 1 c cs hx (by simpa using hlen) ?_ (E.one hy) h63 hbytes (Nat.le_trans hbase hbw.size) ?_
  · intro j u hj
    have hj' : j < E.sz := by have := (List.getElem?_eq_some_iff.1 hj).1; omega
    rw [hcs j hj', hj]
  · intro v' w' hown' hgrow _ hat
    obtain ⟨ao, cap, rfl, -, -⟩ := own_shape hown'
    refine h ao cap w' (own_append hv1 hv2 hbw hS ?_ (by simpa using hown') hgrow hat) hgrow hlt hat
    intro k y' hk
    obtain rfl : k = 0 := by have := (List.getElem?_eq_some_iff.1 hk).1; simp at this; omega
    simp at hk; subst hk
    exact ⟨cs, hy, by simp⟩

/-- 'append(v, xs...)', v a row of one's own, xs whatever slice: wm is the world before xs was made. -/
theorem wpList_appN {α : Type} {E : Elt α} {S Sy : Nat → Prop} {w wm : World} (hgd : o.guard = none) (s x : Operand) (t : TypeId)
    (ho : o.op = .call { callee := .builtin .append, args := #[s, x], argTypes := #[t, t] })
    {base : Nat} {e : TypeId} {z : Value} {bytes : Nat} (ht : P.underlying t = some (.slice e)) (hi : (P.info? e).map (fun i => (i.zero, i.size, i.bytes)) = some (some z, E.sz, bytes))
    (hzs : z.cells.size = E.sz) {v : Value} {xs : List α} (hs : a.eval s = v) (hown : Own E S base e wm v xs) (hbw : Below wm.heap.size wm w)
    {ys : List α} {vy : Value} (hx : a.eval x = vy) (hy : Seq E Sy w vy ys) (hS : ∀ b, Sy b → b < w.heap.size → S b ∧ (b < base ∨ wm.heap.size ≤ b))
    (hbytes : (xs.length + ys.length) * bytes ≤ 140737488355328) (h63 : xs.length + ys.length ≤ maxLen) (hbase : base ≤ wm.heap.size)
    (h : ∀ ao cap w', Own E S base e w' (.slice ao (xs.length + ys.length) cap) (xs ++ ys) → w.grownBy w' v.ownBlock → (∀ k, v.ownBlock = some k → base ≤ k ∧ k < wm.heap.size) → ((Value.slice ao (xs.length + ys.length) cap).ownBlock = v.ownBlock ∨ (Value.slice ao (xs.length + ys.length) cap).ownBlock = some w.heap.size) → wpList P ops Q rest (a.put o.dst (.slice ao (xs.length + ys.length) cap)) w') : wpList P ops Q (o :: rest) a w := by
  obtain ⟨i, hi1, hz0, hz1, hz2⟩ := info_parts hi
  obtain ⟨vs, hv1, hv2⟩ := hown
  have hlt := hv1.lt
  have hwb : ∀ k, v.ownBlock = some k → w.heap[k]? = wm.heap[k]? := fun k hk => hbw.block k (hlt k hk).2
  obtain ⟨ay, cy, rfl, hy1, hy2, hy3, hy4, hy5⟩ := hy
  cases ay with
  | none =>
    obtain rfl := hy4 rfl
    have : ys = [] := List.eq_nil_of_length_eq_zero (by omega)
    subst this
    refine wpList_append_own_none hgd s x t ho base e i E.sz ht hi1 v xs.length vs hs (ownsRow_at hv1 hwb) hx ?_
    obtain ⟨ao, cap, rfl, -, -⟩ := own_shape hv1
    refine h ao cap w ?_ (World.grownBy.refl _ _) hlt (.inl rfl)
    rw [List.append_nil]
    exact (show Own E S base e wm _ xs from ⟨vs, hv1, hv2⟩).move hbw
  | some ad =>
    let news : List Value := (List.range (ys.length * E.sz)).map fun j => (w.cell? (ad.add j)).getD undef
    have hnl : news.length = ys.length * E.sz := by simp [news]
    have hcell : ∀ k y, ys[k]? = some y → ∃ cs, E.R Sy w y cs ∧ ∀ j, j < E.sz → w.cell? (ad.add (k * E.sz + j)) = cs[j]? := by
      intro k y hk
      obtain ⟨b, off, cs, h1, h2, h3, h4, h5⟩ := hy5 k y hk
      simp only [Option.some.injEq] at h1
      subst h1
      refine ⟨cs, h4, fun j hj => ?_⟩
      rw [Addr.add_lit]
      exact h5 j hj
    have hnews : ∀ k y, ys[k]? = some y → ∃ cs, E.R Sy w y cs ∧ ∀ j, j < E.sz → news[k * E.sz + j]? = cs[j]? := by
      intro k y hk
      obtain ⟨cs, h1, h2⟩ := hcell k y hk
      refine ⟨cs, h1, fun j hj => ?_⟩
      have hk' := (List.getElem?_eq_some_iff.1 hk).1
      have hlt' := chunk_lt (sz := E.sz) hk' hj
      have hl := E.len h1
      have hj' : j < cs.length := by omega
      simp only [news, List.getElem?_map, List.getElem?_range hlt', Option.map_some, h2 j hj, List.getElem?_eq_getElem hj', Option.getD_some]
    refine wpList_append_own_at w hgd s x t ho base e i z E.sz bytes ht hi1 hz0 hz1 hz2 hzs E.pos v xs.length vs hs (ownsRow_at hv1 hwb) ad ys.length cy news hx hnl ?_ ?_ h63 hbytes (Nat.le_trans hbase hbw.size) ?_
    · intro j u hj
      have hj' : j < ys.length * E.sz := by have := (List.getElem?_eq_some_iff.1 hj).1; omega
      have hdm : j / E.sz < ys.length := Nat.div_lt_of_lt_mul (by rw [Nat.mul_comm]; exact hj')
      have hmod := Nat.mod_lt j E.pos
      obtain ⟨cs, h1, h2⟩ := hcell (j / E.sz) _ (List.getElem?_eq_getElem hdm)
      have hjj : j / E.sz * E.sz + j % E.sz = j := by rw [Nat.mul_comm]; exact Nat.div_add_mod j E.sz
      have h3 := h2 (j % E.sz) hmod
      rw [hjj] at h3
      have hl := E.len h1
      have hj'' : j % E.sz < cs.length := by omega
      rw [List.getElem?_eq_getElem hj''] at h3
      simp only [news, List.getElem?_map, List.getElem?_range hj', Option.map_some, h3, Option.getD_some, Option.some.injEq] at hj
      rw [h3, hj]
    · intro u hu
      obtain ⟨j, hj0, hj⟩ := List.mem_iff_getElem.1 hu
      have hj' : j < ys.length * E.sz := by omega
      have hdm : j / E.sz < ys.length := Nat.div_lt_of_lt_mul (by rw [Nat.mul_comm]; exact hj')
      have hmod := Nat.mod_lt j E.pos
      obtain ⟨cs, h1, h2⟩ := hnews (j / E.sz) _ (List.getElem?_eq_getElem hdm)
      have hjj : j / E.sz * E.sz + j % E.sz = j := by rw [Nat.mul_comm]; exact Nat.div_add_mod j E.sz
      have h3 := h2 (j % E.sz) hmod
      rw [hjj, List.getElem?_eq_getElem hj0, hj] at h3
      exact E.one h1 u (List.mem_of_getElem? h3.symm)
    · intro v' w' hown' hgrow _ hat
      obtain ⟨ao, cap, rfl, -, -⟩ := own_shape hown'
      exact h ao cap w' (own_append hv1 hv2 hbw hS hnews hown' hgrow hat) hgrow hlt hat

/-- What an append leaves of the rest: what lay below base, and what was laid behind wm, is as it was. -/
structure Kept (base : Nat) (wm w w' : World) (v v' : Value) : Prop where
  below : Below base w w'
  block : ∀ b, wm.heap.size ≤ b → b < w.heap.size → w'.heap[b]? = w.heap[b]?
  keep : ∀ b, b < w.heap.size → v.ownBlock ≠ some b → w'.heap[b]? = w.heap[b]?
  blk : v'.ownBlock = v.ownBlock ∨ v'.ownBlock = some w.heap.size

theorem Kept.cell {base : Nat} {wm w w' : World} {v v' : Value} (h : Kept base wm w w' v v') {b : Nat} (o : Nat) (h1 : wm.heap.size ≤ b) (h2 : b < w.heap.size) : w'.cell? ⟨b, o, none⟩ = w.cell? ⟨b, o, none⟩ :=
  World.cell?_of_block (w := w) (h.block b h1 h2)
theorem Kept.frozen {base : Nat} {wm w w' : World} {v v' : Value} (h : Kept base wm w w' v v') {b : Nat} (o : Nat) (h1 : wm.heap.size ≤ b) (h2 : b < w.heap.size) : w'.frozen? ⟨b, o, none⟩ = w.frozen? ⟨b, o, none⟩ :=
  World.frozen?_of_block (w := w) (h.block b h1 h2)

theorem Kept.of {base : Nat} {wm w w' : World} {v v' : Value} (hg : w.grownBy w' v.ownBlock) (hl : ∀ k, v.ownBlock = some k → base ≤ k ∧ k < wm.heap.size) (hbw : Below wm.heap.size wm w) (hb : base ≤ wm.heap.size) (hat : v'.ownBlock = v.ownBlock ∨ v'.ownBlock = some w.heap.size) : Kept base wm w w' v v' :=
  ⟨⟨hg.os, hg.tape, hg.output, hg.size, fun k hk => hg.block k (by have := hbw.size; omega) (fun e => by have := hl k e.symm; omega)⟩,
   fun b h1 h2 => hg.block b h2 (fun e => by have := hl b e.symm; omega),
   fun b h1 h2 => hg.block b h1 (fun e => h2 e.symm), hat⟩

theorem wpList_app_int {S : Nat → Prop} {w wm : World} (hgd : o.guard = none) (s x : Operand) (t : TypeId)
    (ho : o.op = .call { callee := .builtin .append, args := #[s, x], argTypes := #[t, t] })
    {base : Nat} {e : TypeId} (ht : P.underlying t = some (.slice e)) (hi : (P.info? e).map (fun i => (i.zero, i.size, i.bytes)) = some (some (.int .i64 0), 1, 8))
    {v : Value} {xs : List Int} (hs : a.eval s = v) (hown : Own intE S base e wm v xs) {B c : Nat} (hx : a.eval x = .slice (some ⟨B, 0, none⟩) 1 c)
    (hbw : Below wm.heap.size wm w) {y : Int} (hy : IntOK y) (hcs : w.cell? ⟨B, 0, none⟩ = some (.int .i64 y)) (hbytes : xs.length ≤ 1000000000000) (hbase : base ≤ wm.heap.size)
    (h : ∀ ao cap w', Own intE S base e w' (.slice ao (xs.length + 1) cap) (xs ++ [y]) → Kept base wm w w' v (.slice ao (xs.length + 1) cap) → wpList P ops Q rest (a.put o.dst (.slice ao (xs.length + 1) cap)) w') : wpList P ops Q (o :: rest) a w :=
  wpList_app1 (E := intE) (Sy := fun _ => False) (y := y) (cs := [.int .i64 y]) hgd s x t ho ht hi rfl hs hown hbw _ _ hx ⟨rfl, hy⟩ (fun _ h => h.elim)
    (by intro j hj; obtain rfl : j = 0 := (by have : j < 1 := hj; omega); exact hcs) (by omega) (by simp only [maxLen]; omega) hbase
    fun ao cap w' h1 h2 h3 h4 => h ao cap w' h1 (Kept.of h2 h3 hbw hbase h4)

theorem wpList_app_pair {S : Nat → Prop} {w wm : World} (hgd : o.guard = none) (s x : Operand) (t : TypeId)
    (ho : o.op = .call { callee := .builtin .append, args := #[s, x], argTypes := #[t, t] })
    {base : Nat} {e : TypeId} (ht : P.underlying t = some (.slice e)) (hi : (P.info? e).map (fun i => (i.zero, i.size, i.bytes)) = some (some (.agg #[.int .i64 0, .int .i64 0]), 2, 16))
    {v : Value} {xs : List (Int × Int)} (hs : a.eval s = v) (hown : Own pairE S base e wm v xs) {B c : Nat} (hx : a.eval x = .slice (some ⟨B, 0, none⟩) 1 c)
    (hbw : Below wm.heap.size wm w) {y : Int × Int} (hy : IntOK y.1) (hy2 : IntOK y.2) (hc0 : w.cell? ⟨B, 0, none⟩ = some (.int .i64 y.1)) (hc1 : w.cell? ⟨B, 1, none⟩ = some (.int .i64 y.2)) (hbytes : xs.length ≤ 1000000000000) (hbase : base ≤ wm.heap.size)
    (h : ∀ ao cap w', Own pairE S base e w' (.slice ao (xs.length + 1) cap) (xs ++ [y]) → Kept base wm w w' v (.slice ao (xs.length + 1) cap) → wpList P ops Q rest (a.put o.dst (.slice ao (xs.length + 1) cap)) w') : wpList P ops Q (o :: rest) a w :=
  wpList_app1 (E := pairE) (Sy := fun _ => False) (y := y) (cs := [.int .i64 y.1, .int .i64 y.2]) hgd s x t ho ht hi rfl hs hown hbw _ _ hx ⟨rfl, hy, hy2⟩ (fun _ h => h.elim)
    (by
      intro j hj
      have h3 : j < 2 := hj
      rcases (show j = 0 ∨ j = 1 by omega) with rfl | rfl
      · exact hc0
      · exact hc1) (by omega) (by simp only [maxLen]; omega) hbase
    fun ao cap w' h1 h2 h3 h4 => h ao cap w' h1 (Kept.of h2 h3 hbw hbase h4)

theorem wpList_app_seq {α : Type} {E : Elt α} {S Sy : Nat → Prop} {w wm : World} (hgd : o.guard = none) (s x : Operand) (t : TypeId)
    (ho : o.op = .call { callee := .builtin .append, args := #[s, x], argTypes := #[t, t] })
    {base : Nat} {e : TypeId} (ht : P.underlying t = some (.slice e)) (hi : (P.info? e).map (fun i => (i.zero, i.size, i.bytes)) = some (some (.slice none 0 0), 1, 24))
    {v : Value} {xs : List (List α)} (hs : a.eval s = v) (hown : Own (seqE E) S base e wm v xs) {B c : Nat} (hx : a.eval x = .slice (some ⟨B, 0, none⟩) 1 c)
    (hbw : Below wm.heap.size wm w) {y : List α} {vy : Value} (hy : Seq E Sy w vy y) (hS : ∀ b, Sy b → b < w.heap.size → S b ∧ (b < base ∨ wm.heap.size ≤ b)) (hcs : w.cell? ⟨B, 0, none⟩ = some vy) (hbytes : xs.length ≤ 1000000000000) (hbase : base ≤ wm.heap.size)
    (h : ∀ ao cap w', Own (seqE E) S base e w' (.slice ao (xs.length + 1) cap) (xs ++ [y]) → Kept base wm w w' v (.slice ao (xs.length + 1) cap) → wpList P ops Q rest (a.put o.dst (.slice ao (xs.length + 1) cap)) w') : wpList P ops Q (o :: rest) a w :=
  wpList_app1 (E := seqE E) (Sy := Sy) (y := y) (cs := [vy]) hgd s x t ho ht hi rfl hs hown hbw _ _ hx ⟨vy, rfl, hy⟩ hS
    (by intro j hj; obtain rfl : j = 0 := (by have : j < 1 := hj; omega); exact hcs) (by omega) (by simp only [maxLen]; omega) hbase
    fun ao cap w' h1 h2 h3 h4 => h ao cap w' h1 (Kept.of h2 h3 hbw hbase h4)

theorem wpList_app_rule {S Sy : Nat → Prop} {w wm : World} (hgd : o.guard = none) (s x : Operand) (t : TypeId)
    (ho : o.op = .call { callee := .builtin .append, args := #[s, x], argTypes := #[t, t] })
    {base : Nat} {e : TypeId} (ht : P.underlying t = some (.slice e)) (hi : (P.info? e).map (fun i => (i.zero, i.size, i.bytes)) = some (some (.agg #[.int .i64 0, .slice none 0 0, .slice none 0 0]), 3, 56))
    {v : Value} {xs : List Rule} (hs : a.eval s = v) (hown : Own ruleE S base e wm v xs) {B c : Nat} (hx : a.eval x = .slice (some ⟨B, 0, none⟩) 1 c)
    (hbw : Below wm.heap.size wm w) {y : Rule} {vp vn : Value} (hh : IntOK y.head) (hp : Seq intE Sy w vp y.pos) (hn : Seq intE Sy w vn y.neg) (hS : ∀ b, Sy b → b < w.heap.size → S b ∧ (b < base ∨ wm.heap.size ≤ b))
    (hc0 : w.cell? ⟨B, 0, none⟩ = some (.int .i64 y.head)) (hc1 : w.cell? ⟨B, 1, none⟩ = some vp) (hc2 : w.cell? ⟨B, 2, none⟩ = some vn) (hbytes : xs.length ≤ 1000000000000) (hbase : base ≤ wm.heap.size)
    (h : ∀ ao cap w', Own ruleE S base e w' (.slice ao (xs.length + 1) cap) (xs ++ [y]) → Kept base wm w w' v (.slice ao (xs.length + 1) cap) → wpList P ops Q rest (a.put o.dst (.slice ao (xs.length + 1) cap)) w') : wpList P ops Q (o :: rest) a w :=
  wpList_app1 (E := ruleE) (Sy := Sy) (y := y) (cs := [.int .i64 y.head, vp, vn]) hgd s x t ho ht hi rfl hs hown hbw _ _ hx ⟨vp, vn, rfl, hh, hp, hn⟩ hS
    (by
      intro j hj
      have h3 : j < 3 := hj
      rcases (show j = 0 ∨ j = 1 ∨ j = 2 by omega) with rfl | rfl | rfl
      · exact hc0
      · exact hc1
      · exact hc2) (by omega) (by simp only [maxLen]; omega) hbase
    fun ao cap w' h1 h2 h3 h4 => h ao cap w' h1 (Kept.of h2 h3 hbw hbase h4)
end

/-! ### A row of cells of one's own, known whole: block B holds just these values -/
def Row (T : TypeId) (w : World) (B : Nat) (vs : List Value) : Prop := w.heap[B]? = some (.cells vs.toArray T (0, 0))

section
variable {T : TypeId} {w w' : World} {B : Nat} {vs : List Value}
theorem Row.lt (h : Row T w B vs) : B < w.heap.size := by
  rcases Nat.lt_or_ge B w.heap.size with hlt | hge
  · exact hlt
  · unfold Row at h; rw [Array.getElem?_eq_none hge] at h; simp at h
theorem Row.cell (h : Row T w B vs) {j : Nat} (hj : j < vs.length) : w.cell? ⟨B, j, none⟩ = some vs[j] := by
  unfold Row at h
  simp [World.cell?, h, hj]
theorem Row.frozen (h : Row T w B vs) (j : Nat) : w.frozen? ⟨B, j, none⟩ = false := by
  unfold Row at h
  simp [World.frozen?, h]
theorem Row.set (h : Row T w B vs) (j : Nat) (v : Value) : Row T (w.setCell ⟨B, j, none⟩ v) B (vs.set j v) := by
  have hl := h.lt
  unfold Row at h ⊢
  rw [Array.getElem?_eq_getElem hl] at h
  simp only [Option.some.injEq] at h
  simp [World.setCell, Array.getElem?_modify, Array.getElem?_eq_getElem hl, h]
theorem Row.at (h : Row T w B vs) (hw : w'.heap[B]? = w.heap[B]?) : Row T w' B vs := by unfold Row at h ⊢; rw [hw]; exact h
theorem Row.below {B' : Nat} (h : Row T w B vs) (hb : Below B' w w') (hB : B < B') : Row T w' B vs := h.at (hb.block B hB)
theorem Row.new (w : World) (vs : List Value) (T : TypeId) (hB : B = w.heap.size) : Row T (w.alloc (.cells vs.toArray T)) B vs := by
  subst hB; exact heap_alloc_new w _
theorem Row.alloc (h : Row T w B vs) (o : Obj) : Row T (w.alloc o) B vs := h.at (Below.heap_alloc _ _ _ h.lt)
theorem Row.setOther (h : Row T w B vs) {a : Addr} (v : Value) (ha : a.block ≠ B) : Row T (w.setCell a v) B vs := h.at (Below.heap_setCell _ _ _ _ (fun e => ha e.symm))
theorem madeCells_one (z : Value) (n : Nat) : madeCells #[z] n = (List.replicate n z).toArray := by
  apply Array.ext
  · simp [madeCells]
  · intro i h1 h2
    simp [madeCells, Nat.mod_one]

/-- A whole row is a slice. -/
theorem Row.seq {α : Type} {E : Elt α} {S : Nat → Prop} {xs : List α} {n cap : Nat} (h : Row T w B vs) (hn : n = xs.length) (hcap : n ≤ cap) (hm : cap ≤ maxLen) (hl : xs.length ≤ 140737488355328) (hS : S B)
    (hx : ∀ k x, xs[k]? = some x → ∃ cs, E.R S w x cs ∧ ∀ j, j < E.sz → vs[k * E.sz + j]? = cs[j]?) : Seq E S w (.slice (some ⟨B, 0, none⟩) n cap) xs := by
  subst hn
  refine ⟨_, cap, rfl, hcap, hm, hl, by simp, fun k x hk => ?_⟩
  obtain ⟨cs, h1, h2⟩ := hx k x hk
  refine ⟨B, 0, cs, rfl, hS, h.lt, h1, fun j hj => ?_⟩
  have h3 := E.len h1
  have hj' : j < cs.length := by omega
  have h4 := h2 j hj
  rw [List.getElem?_eq_getElem hj'] at h4 ⊢
  have h5 := (List.getElem?_eq_some_iff.1 h4).1
  rw [Nat.zero_add, h.cell h5]
  exact congrArg some (List.getElem?_eq_some_iff.1 h4).2

/-- A row of bools. -/
def RowB (T : TypeId) (w : World) (B : Nat) (xs : List Bool) : Prop := Row T w B (xs.map Value.bool)
theorem RowB.cell {xs : List Bool} (h : RowB T w B xs) {j : Nat} (hj : j < xs.length) : w.cell? ⟨B, j, none⟩ = some (.bool xs[j]) := by
  have := Row.cell h (j := j) (by simpa using hj)
  simpa using this
theorem RowB.frozen {xs : List Bool} (h : RowB T w B xs) (j : Nat) : w.frozen? ⟨B, j, none⟩ = false := Row.frozen h j
theorem RowB.set {xs : List Bool} (h : RowB T w B xs) (j : Nat) (b : Bool) : RowB T (w.setCell ⟨B, j, none⟩ (.bool b)) B (xs.set j b) := by
  unfold RowB; rw [List.map_set]; exact Row.set h j _
theorem RowB.alloc {xs : List Bool} (h : RowB T w B xs) (o : Obj) : RowB T (w.alloc o) B xs := Row.alloc h o
theorem RowB.below {B' : Nat} {xs : List Bool} (h : RowB T w B xs) (hb : Below B' w w') (hB : B < B') : RowB T w' B xs := Row.below h hb hB
theorem RowB.setOther {xs : List Bool} (h : RowB T w B xs) {a : Addr} (v : Value) (ha : a.block ≠ B) : RowB T (w.setCell a v) B xs := Row.setOther h v ha
theorem RowB.made (w : World) (n : Nat) (T : TypeId) (hB : B = w.heap.size) : RowB T (w.alloc (.cells (madeCells #[.bool false] n) T)) B (List.replicate n false) := by
  unfold RowB
  rw [madeCells_one, List.map_replicate]
  exact Row.new _ _ _ hB
theorem RowB.seq {S : Nat → Prop} {xs : List Bool} {n cap : Nat} (h : RowB T w B xs) (hn : n = xs.length) (hcap : n ≤ cap) (hm : cap ≤ maxLen) (hl : xs.length ≤ 140737488355328) (hS : S B) : Seq boolE S w (.slice (some ⟨B, 0, none⟩) n cap) xs := by
  refine Row.seq h hn hcap hm hl hS fun k x hk => ⟨[.bool x], rfl, fun j hj => ?_⟩
  obtain rfl : j = 0 := by have : j < 1 := hj; omega
  simp [boolE, hk]

/-- A row of numbers. -/
def RowI (T : TypeId) (w : World) (B : Nat) (xs : List Int) : Prop := Row T w B (xs.map (Value.int .i64))
theorem RowI.cell {xs : List Int} (h : RowI T w B xs) {j : Nat} (hj : j < xs.length) : w.cell? ⟨B, j, none⟩ = some (.int .i64 xs[j]) := by
  have := Row.cell h (j := j) (by simpa using hj)
  simpa using this
theorem RowI.frozen {xs : List Int} (h : RowI T w B xs) (j : Nat) : w.frozen? ⟨B, j, none⟩ = false := Row.frozen h j
theorem RowI.set {xs : List Int} (h : RowI T w B xs) (j : Nat) (b : Int) : RowI T (w.setCell ⟨B, j, none⟩ (.int .i64 b)) B (xs.set j b) := by
  unfold RowI; rw [List.map_set]; exact Row.set h j _
theorem RowI.alloc {xs : List Int} (h : RowI T w B xs) (o : Obj) : RowI T (w.alloc o) B xs := Row.alloc h o
theorem RowI.below {B' : Nat} {xs : List Int} (h : RowI T w B xs) (hb : Below B' w w') (hB : B < B') : RowI T w' B xs := Row.below h hb hB
theorem RowI.setOther {xs : List Int} (h : RowI T w B xs) {a : Addr} (v : Value) (ha : a.block ≠ B) : RowI T (w.setCell a v) B xs := Row.setOther h v ha
theorem RowI.made (w : World) (n : Nat) (T : TypeId) (hB : B = w.heap.size) : RowI T (w.alloc (.cells (madeCells #[.int .i64 0] n) T)) B (List.replicate n 0) := by
  unfold RowI
  rw [madeCells_one, List.map_replicate]
  exact Row.new _ _ _ hB
theorem RowI.seq {S : Nat → Prop} {xs : List Int} {n cap : Nat} (h : RowI T w B xs) (hn : n = xs.length) (hcap : n ≤ cap) (hm : cap ≤ maxLen) (hl : xs.length ≤ 140737488355328) (hS : S B) (hok : ∀ x ∈ xs, IntOK x) : Seq intE S w (.slice (some ⟨B, 0, none⟩) n cap) xs := by
  refine Row.seq h hn hcap hm hl hS fun k x hk => ⟨[.int .i64 x], ⟨rfl, hok x (List.mem_of_getElem? hk)⟩, fun j hj => ?_⟩
  obtain rfl : j = 0 := by have : j < 1 := hj; omega
  simp [intE, hk]
end
end Go.Proofs.YtckkjjiaecnciaaGreat
