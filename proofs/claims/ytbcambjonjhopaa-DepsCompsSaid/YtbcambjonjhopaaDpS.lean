/-
  Layer 23's laws: one, two, great.
  Layer 23's head in plain Lean: what the live questions answer.
-/
import Derived.Test.YtbcambjonjhopaaDpQ
namespace Go.Proofs.Ytbcambjonjhopaa
section
open Go Go.RowKit

def CellW2 (c : Cell) : Prop := IntOK c.kind ∧ IntOK c.n ∧ c.name.size ≤ 140737488355328
def flatV (cs : List Cell) : List Value := cs.flatMap fun c => [.int .i64 c.kind, .string c.name, .int .i64 c.n]
theorem flatV_get : ∀ (cs : List Cell) (k j : Nat) (c : Cell), cs[k]? = some c → j < 3 → (flatV cs)[k * 3 + j]? = [Value.int .i64 c.kind, .string c.name, .int .i64 c.n][j]?
  | [], k, j, c, h, _ => by simp at h
  | d :: cs, 0, j, c, h, hj => by
    simp at h; subst h
    show ([Value.int .i64 d.kind, .string d.name, .int .i64 d.n] ++ flatV cs)[0 * 3 + j]? = _
    rw [List.getElem?_append_left (by simp; omega)]
    congr 1; omega
  | d :: cs, k + 1, j, c, h, hj => by
    simp at h
    show ([Value.int .i64 d.kind, .string d.name, .int .i64 d.n] ++ flatV cs)[(k + 1) * 3 + j]? = _
    rw [List.getElem?_append_right (by simp; omega), ← flatV_get cs k j c h hj]
    congr 1; simp; omega
/-- A literal slice of cells. -/
theorem seq_cells {T : TypeId} {w : World} {B n : Nat} {cs : List Cell} (h : Row T w B (flatV cs)) (hok : ∀ c ∈ cs, CellW2 c) (hn : n = cs.length) (hl : cs.length ≤ 1000) {S : Nat → Prop} (hS : S B) :
    Seq cellE S w (.slice (some ⟨B, 0, none⟩) n n) cs :=
  Row.seq h hn (Nat.le_refl _) (by unfold maxLen; omega) (by omega) hS fun k x hk => ⟨_, ⟨rfl, hok x (List.mem_of_getElem? hk)⟩, fun j hj => flatV_get cs k j x hk hj⟩

def cX : Cell := ⟨1, ⟨#[]⟩, 0⟩
def oneT (nm : ByteArray) (c : Cell) : List Cell := [⟨3, nm, 1⟩, c]
theorem cellW2_of {c : Cell} (h1 : -9223372036854775808 ≤ c.kind ∧ c.kind ≤ 9223372036854775807) (h2 : -9223372036854775808 ≤ c.n ∧ c.n ≤ 9223372036854775807) (h3 : c.name.size ≤ 140737488355328) : CellW2 c := ⟨h1, h2, h3⟩
set_option maxRecDepth 100000 in
theorem oneL_spec {w : World} {nm : ByteArray} {c : Cell} (hnm : nm.size ≤ 1000) (hc : CellW2 c) :
    Calls Try.prog 11 #[.string nm, .agg #[.int .i64 c.kind, .string c.name, .int .i64 c.n]] w (Ret (fun r w' => Seq cellE (fun b => w.heap.size ≤ b) w' r (oneT nm c)) w) := by
  have Hc := Lib.hid hc
  clear hc
  go_enter Try.func11, Try.ntmps11
  go_wp2_with fail
  go_ret
  refine ⟨_, rfl, Seq.way, ?_⟩
  exact seq_cells (cs := oneT nm c) (show Row 38 _ (w.heap.size + 1) [.int .i64 3, .string nm, .int .i64 1, .int .i64 c.kind, .string c.name, .int .i64 c.n] from Row.new _ [_, _, _, _, _, _] _ (by simp)) (fun d hd => by
    unfold oneT at hd
    rcases List.mem_cons.1 hd with rfl | hd
    · exact cellW2_of ⟨by show (_ : Int) ≤ 3; decide, by show (3 : Int) ≤ _; decide⟩ ⟨by show (_ : Int) ≤ 1; decide, by show (1 : Int) ≤ _; decide⟩ (by show nm.size ≤ _; omega)
    · rw [List.mem_singleton] at hd; subst hd; exact Hc.out) rfl (by simp [oneT]) (by omega)

def pX : List Cell := oneT ⟨#[112]⟩ cX
def qX : List Cell := oneT ⟨#[113]⟩ cX
def twoR : Res := ⟨[⟨pX, []⟩, ⟨qX, []⟩], [(0, 1)]⟩
theorem cX_ok : CellW2 cX := cellW2_of (by decide) (by decide) (by decide)
theorem tabs2 {S : Nat → Prop} {T : TypeId} {w : World} {B : Nat} {a0 a1 u0 u1 : Value} {t0 t1 : Tab} (h : Row T w B [a0, u0, a1, u1]) (hS : S B) (h0 : Seq cellE S w a0 t0.call) (h1 : Seq (seqE cellE) S w u0 t0.ans)
    (h2 : Seq cellE S w a1 t1.call) (h3 : Seq (seqE cellE) S w u1 t1.ans) : Seq tabE S w (.slice (some ⟨B, 0, none⟩) 2 2) [t0, t1] := by
  refine Row.seq h rfl (Nat.le_refl _) (by decide) (by simp) hS fun k x hk => ?_
  match k, hk with
  | 0, hk =>
    simp at hk; subst hk
    refine ⟨[a0, u0], ⟨a0, u0, rfl, h0, h1⟩, fun j hj => ?_⟩
    have hj2 : j < 2 := hj
    rcases (show j = 0 ∨ j = 1 by omega) with rfl | rfl <;> rfl
  | 1, hk =>
    simp at hk; subst hk
    refine ⟨[a1, u1], ⟨a1, u1, rfl, h2, h3⟩, fun j hj => ?_⟩
    have hj2 : j < 2 := hj
    rcases (show j = 0 ∨ j = 1 by omega) with rfl | rfl <;> rfl
theorem edges1 {S : Nat → Prop} {T : TypeId} {w : World} {B : Nat} {a b : Int} (h : Row T w B [.int .i64 a, .int .i64 b]) (hS : S B) (ha : IntOK a) (hb : IntOK b) : Seq edgE S w (.slice (some ⟨B, 0, none⟩) 1 1) [(a, b)] := by
  refine Row.seq h rfl (Nat.le_refl _) (by decide) (by simp) hS fun k x hk => ?_
  match k, hk with
  | 0, hk =>
    simp at hk; subst hk
    refine ⟨[.int .i64 a, .int .i64 b], ⟨rfl, ha, hb⟩, fun j hj => ?_⟩
    have hj2 : j < 2 := hj
    rcases (show j = 0 ∨ j = 1 by omega) with rfl | rfl <;> rfl

def twoTabs : List Tab := [⟨pX, []⟩, ⟨qX, []⟩]
/-- What 'two' hands back, its tables in a block that may be written. -/
def TwoV (B0 : Nat) (w : World) (v : Value) : Prop := ∃ b bl a0 c0 a1 c1, v = .agg #[.slice (some ⟨b, 0, none⟩) 2 2, .slice none 0 0, .slice (some ⟨bl, 0, none⟩) 1 1] ∧ B0 ≤ b ∧
  Row 43 w b [.slice a0 2 c0, .slice none 0 0, .slice a1 2 c1, .slice none 0 0] ∧ Seq cellE (fun x => x ≠ b ∧ B0 ≤ x) w (.slice a0 2 c0) pX ∧ Seq cellE (fun x => x ≠ b ∧ B0 ≤ x) w (.slice a1 2 c1) qX ∧ Seq edgE (fun x => x ≠ b ∧ B0 ≤ x) w (.slice (some ⟨bl, 0, none⟩) 1 1) [(0, 1)]
theorem TwoV.at {B0 : Nat} {w w' : World} {v : Value} (h : TwoV B0 w v) (hb : Below w.heap.size w w') : TwoV B0 w' v := by
  obtain ⟨b, bl, a0, c0, a1, c1, rfl, h1, h2, h3, h4, h5⟩ := h
  exact ⟨b, bl, a0, c0, a1, c1, rfl, h1, Row.below h2 hb h2.lt, h3.at hb, h4.at hb, h5.at hb⟩
theorem TwoV.move {B0 : Nat} {w w' : World} {v : Value} (h : TwoV B0 w v) (hb : ∀ b, B0 ≤ b → w'.heap[b]? = w.heap[b]?) : TwoV B0 w' v := by
  obtain ⟨b, bl, a0, c0, a1, c1, rfl, h1, h2, h3, h4, h5⟩ := h
  exact ⟨b, bl, a0, c0, a1, c1, rfl, h1, h2.at (hb b h1), h3.mono (fun _ h _ => h) (fun b h _ => hb b h.2), h4.mono (fun _ h _ => h) (fun b h _ => hb b h.2), h5.mono (fun _ h _ => h) (fun b h _ => hb b h.2)⟩
theorem TwoV.mono {B0 B1 : Nat} {w : World} {v : Value} (h : TwoV B0 w v) (hB : B1 ≤ B0) : TwoV B1 w v := by
  obtain ⟨b, bl, a0, c0, a1, c1, rfl, h1, h2, h3, h4, h5⟩ := h
  exact ⟨b, bl, a0, c0, a1, c1, rfl, by omega, h2, h3.mono (fun _ h _ => ⟨h.1, by omega⟩) (fun _ _ _ => rfl), h4.mono (fun _ h _ => ⟨h.1, by omega⟩) (fun _ _ _ => rfl), h5.mono (fun _ h _ => ⟨h.1, by omega⟩) (fun _ _ _ => rfl)⟩
theorem TwoV.res {B0 : Nat} {w : World} {v : Value} (h : TwoV B0 w v) : ResV (fun _ => True) w v twoR := by
  obtain ⟨b, bl, a0, c0, a1, c1, rfl, h1, h2, h3, h4, h5⟩ := h
  exact ResV.mk (r := twoR) (tabs2 h2 trivial h3.any (Seq.nil _ _ _) h4.any (Seq.nil _ _ _)) h5.any
theorem row_unlike {T T' : TypeId} {w : World} {B B' : Nat} {vs vs' : List Value} (h : Row T w B vs) (h' : Row T' w B' vs') (hl : vs.length ≠ vs'.length) : B ≠ B' := by
  rintro rfl
  unfold Row at h h'
  rw [h] at h'
  simp only [Option.some.injEq, Obj.cells.injEq] at h'
  exact hl (by have := congrArg Array.size h'.1; simpa using this)
theorem below_step' {B : Nat} {w0 w w' : World} (h0 : Below w0.heap.size w0 w) (h : Below B w w') (hB : w0.heap.size ≤ B) : Below w0.heap.size w0 w' := h0.trans (h.mono hB)

set_option maxHeartbeats 6400000 in
set_option maxRecDepth 100000 in
theorem two_spec {w : World} : Calls Try.prog 10 #[] w (Ret (fun o w' => TwoV w.heap.size w' o) w) := by
  obtain ⟨W0, hW0⟩ : ∃ W, W = (w.alloc (.cells #[.slice none 0 0, .slice none 0 0, .slice none 0 0] 26)).alloc (.cells #[.int .i64 1, .string ⟨#[]⟩, .int .i64 0] 38) := ⟨_, rfl⟩
  have HB0 := Lib.hid (show Below w.heap.size w W0 by rw [hW0]; exact Seq.way)
  have R0 := Lib.hid (show RowA 26 W0 w.heap.size [.slice none 0 0, .slice none 0 0, .slice none 0 0] by rw [hW0]; exact (Row.new w [_, _, _] _ rfl).alloc _)
  have R1 := Lib.hid (show RowA 38 W0 (w.heap.size + 1) [.int .i64 1, .string ⟨#[]⟩, .int .i64 0] by rw [hW0]; exact Row.new (w.alloc _) [_, _, _] _ (by simp))
  have HW0 := Lib.hid hW0
  obtain ⟨br, hbr⟩ : ∃ b, b = w.heap.size := ⟨_, rfl⟩
  obtain ⟨bc, hbc⟩ : ∃ b, b = w.heap.size + 1 := ⟨_, rfl⟩
  rw [← hbr] at R0
  rw [← hbc] at R1
  have Hbr := Lib.hid (show br = w.heap.size from hbr)
  have Hbc := Lib.hid (show bc = w.heap.size + 1 from hbc)
  have hbrl := R0.out.row.lt
  clear hW0 hbr hbc
  have KC := fun {y : World} (h : Below W0.heap.size W0 y) => Lib.hid (show y.cell? ⟨bc, 0, none⟩ = some (.int .i64 1) ∧ y.cell? ⟨bc, 1, none⟩ = some (.string ⟨#[]⟩) ∧ y.cell? ⟨bc, 2, none⟩ = some (.int .i64 0) from
    ⟨(R1.out.at h).row.cell (j := 0) (by simp), (R1.out.at h).row.cell (j := 1) (by simp), (R1.out.at h).row.cell (j := 2) (by simp)⟩)
  go_enter Try.func10, Try.ntmps10
  go_upto_region 2 with fail
  rw [← HW0.out, ← Hbc.out, ← Hbr.out]
  refine wp_region_noPanic ?_
  refine wp_region_held_drew (S := fun y => y.cell? ⟨bc, 0, none⟩ = some (.int .i64 1) ∧ y.cell? ⟨bc, 1, none⟩ = some (.string ⟨#[]⟩) ∧ y.cell? ⟨bc, 2, none⟩ = some (.int .i64 0)) (by kernel_rfl) (KC Seq.way).out (fun hHeld => ?_)
  refine wpAnyH_take1 (i := 0) (oi := _) (v := ?_) (by kernel_rfl) rfl (by kernel_rfl) (fun _ _ _ h => h) (Or.inl ⟨by rfl, ?_⟩) hHeld ?_
  rotate_left 1
  · intro y hSw; (try dsimp only at hSw); go_simp; (with_reducible rfl)
  (try simp only [Act.put, List.getElem_toArray, List.getElem_cons_zero, List.setIfInBounds_toArray, List.set_cons_zero, List.set_cons_succ])
  refine wpAnyH_take1 (i := 3) (oi := _) (v := ?_) (by kernel_rfl) rfl (by kernel_rfl) (fun _ _ _ h => h) (Or.inl ⟨by rfl, ?_⟩) hHeld ?_
  rotate_left 1
  · intro y hSw; (try dsimp only at hSw); go_simp; (with_reducible rfl)
  (try simp only [Act.put, List.getElem_toArray, List.getElem_cons_zero, List.getElem_cons_succ, List.setIfInBounds_toArray, List.set_cons_zero, List.set_cons_succ])
  refine wpAnyH_take1 (i := 7) (oi := _) (v := ?_) (by kernel_rfl) rfl (by kernel_rfl) (fun _ _ _ h => h) (Or.inl ⟨by rfl, ?_⟩) hHeld ?_
  rotate_left 1
  · intro y hSw; (try dsimp only at hSw); go_simp; (with_reducible rfl)
  (try simp only [Act.put, List.getElem_toArray, List.getElem_cons_zero, List.getElem_cons_succ, List.setIfInBounds_toArray, List.set_cons_zero, List.set_cons_succ])
  obtain ⟨D0, hD0⟩ : ∃ D : Value → World → Prop, D = fun u w' => ∃ a c, u = .slice a 2 c ∧ Seq cellE (fun b => W0.heap.size ≤ b) w' (.slice a 2 c) pX := ⟨_, rfl⟩
  obtain ⟨D1, hD1⟩ : ∃ D : Value → World → Prop, D = fun u w' => ∃ a c, u = .agg #[.slice a 2 c, .slice none 0 0] ∧ Seq cellE (fun b => W0.heap.size ≤ b) w' (.slice a 2 c) pX := ⟨_, rfl⟩
  obtain ⟨D2, hD2⟩ : ∃ D : Value → World → Prop, D = fun u w' => ∃ a c, u = .slice a 2 c ∧ Seq cellE (fun b => W0.heap.size ≤ b) w' (.slice a 2 c) qX := ⟨_, rfl⟩
  obtain ⟨D3, hD3⟩ : ∃ D : Value → World → Prop, D = fun u w' => ∃ a c, u = .agg #[.slice a 2 c, .slice none 0 0] ∧ Seq cellE (fun b => W0.heap.size ≤ b) w' (.slice a 2 c) qX := ⟨_, rfl⟩
  obtain ⟨D4, hD4⟩ : ∃ D : Value → World → Prop, D = fun u w' => ∃ b a0 c0 a1 c1, u = .slice (some ⟨b, 0, none⟩) 2 2 ∧ W0.heap.size ≤ b ∧ Row 43 w' b [.slice a0 2 c0, .slice none 0 0, .slice a1 2 c1, .slice none 0 0] ∧ Seq cellE (fun x => x ≠ b ∧ W0.heap.size ≤ x) w' (.slice a0 2 c0) pX ∧ Seq cellE (fun x => x ≠ b ∧ W0.heap.size ≤ x) w' (.slice a1 2 c1) qX := ⟨_, rfl⟩
  obtain ⟨D5, hD5⟩ : ∃ D : Value → World → Prop, D = fun u w' => ∃ b, u = .slice (some ⟨b, 0, none⟩) 1 1 ∧ W0.heap.size ≤ b ∧ Row 35 w' b [.int .i64 0, .int .i64 1] := ⟨_, rfl⟩
  obtain ⟨D6, hD6⟩ : ∃ D : Value → World → Prop, D = fun u w' => TwoV W0.heap.size w' u ∧ ∃ a b, u = .agg #[.slice (some ⟨a, 0, none⟩) 2 2, .slice none 0 0, .slice (some ⟨b, 0, none⟩) 1 1] := ⟨_, rfl⟩
  clear hHeld
  refine wpAnyH_flow' (f := 1) [1, 2, 4, 5, 6, 8, 9] [4, 5, 7, 8, 9, 11, 12] [[], [0], [], [2], [1, 3], [], [4, 5]] [D0, D1, D2, D3, D4, D5, D6]
    (by kernel_rfl) rfl (by decide) [undef, undef, undef, undef, undef, undef, undef] rfl (by rfl) ?_ (fun y h => (KC (below_step h Seq.way)).out) ?_ ?_
  · intro D hD v y z hDv hyz
    simp only [List.mem_cons, List.not_mem_nil, or_false] at hD
    rcases hD with rfl | rfl | rfl | rfl | rfl | rfl | rfl
    · rw [hD0] at hDv ⊢; obtain ⟨a, c, e, h⟩ := hDv; exact ⟨a, c, e, h.at hyz⟩
    · rw [hD1] at hDv ⊢; obtain ⟨a, c, e, h⟩ := hDv; exact ⟨a, c, e, h.at hyz⟩
    · rw [hD2] at hDv ⊢; obtain ⟨a, c, e, h⟩ := hDv; exact ⟨a, c, e, h.at hyz⟩
    · rw [hD3] at hDv ⊢; obtain ⟨a, c, e, h⟩ := hDv; exact ⟨a, c, e, h.at hyz⟩
    · rw [hD4] at hDv ⊢; obtain ⟨b, a0, c0, a1, c1, e, h1, h2, h3, h4⟩ := hDv; exact ⟨b, a0, c0, a1, c1, e, h1, Row.below h2 hyz h2.lt, h3.at hyz, h4.at hyz⟩
    · rw [hD5] at hDv ⊢; obtain ⟨b, e, h1, h⟩ := hDv; exact ⟨b, e, h1, Row.below h hyz h.lt⟩
    · rw [hD6] at hDv ⊢; obtain ⟨h, e⟩ := hDv; exact ⟨h.at hyz, e⟩
  · intro k hk vs y hvs hby0 hdeps
    have hzy := hby0.size
    simp only [World.size_drew] at hzy
    obtain ⟨v0, v1, v2, v3, v4, v5, v6, rfl⟩ : ∃ v0 v1 v2 v3 v4 v5 v6, vs = [v0, v1, v2, v3, v4, v5, v6] := by
      match vs, hvs with
      | [v0, v1, v2, v3, v4, v5, v6], _ => exact ⟨v0, v1, v2, v3, v4, v5, v6, rfl⟩
    simp only [putsL, Act.put, List.setIfInBounds_toArray, List.set_cons_zero, List.set_cons_succ]
    rcases (show k = 0 ∨ k = 1 ∨ k = 2 ∨ k = 3 ∨ k = 4 ∨ k = 5 ∨ k = 6 by simp at hk; omega) with rfl | rfl | rfl | rfl | rfl | rfl | rfl
    · refine ⟨_, rfl, by rfl, fun K hK => ?_⟩
      go_simp
      refine (oneL_spec (c := cX) (by decide) cX_ok).mono ?_
      rintro e z ⟨v, rfl, hbz, hp⟩
      obtain ⟨a6, c6, rfl⟩ := hp.shape
      have hp := hp.mono (T := fun b => W0.heap.size ≤ b) (fun b hb _ => by omega) fun _ _ _ => rfl
      refine hK.out _ _ hbz (holds_of (D := D0) rfl ?_)
      rw [hD0]
      exact ⟨a6, c6, rfl, hp⟩
    · have hd := hdeps 0 (by simp) v0 rfl D0 rfl
      rw [hD0] at hd
      obtain ⟨a5, c5, rfl, hp⟩ := hd
      have Hp := Lib.hid hp
      clear hp
      refine ⟨_, rfl, by rfl, fun K hK => ?_⟩
      go_simp
      refine hK.out _ _ (Below.refl _ _) (holds_of (D := D1) rfl ?_)
      rw [hD1]
      exact ⟨_, _, rfl, Hp.out⟩
    · refine ⟨_, rfl, by rfl, fun K hK => ?_⟩
      go_simp
      refine (oneL_spec (c := cX) (by decide) cX_ok).mono ?_
      rintro e z ⟨v, rfl, hbz, hp⟩
      obtain ⟨a6, c6, rfl⟩ := hp.shape
      have hp := hp.mono (T := fun b => W0.heap.size ≤ b) (fun b hb _ => by omega) fun _ _ _ => rfl
      refine hK.out _ _ hbz (holds_of (D := D2) rfl ?_)
      rw [hD2]
      exact ⟨a6, c6, rfl, hp⟩
    · have hd := hdeps 2 (by simp) v2 rfl D2 rfl
      rw [hD2] at hd
      obtain ⟨a5, c5, rfl, hp⟩ := hd
      have Hp := Lib.hid hp
      clear hp
      refine ⟨_, rfl, by rfl, fun K hK => ?_⟩
      go_simp
      refine hK.out _ _ (Below.refl _ _) (holds_of (D := D3) rfl ?_)
      rw [hD3]
      exact ⟨_, _, rfl, Hp.out⟩
    · have hd := hdeps 1 (by simp) v1 rfl D1 rfl
      rw [hD1] at hd
      obtain ⟨a5, c5, rfl, hp⟩ := hd
      have hd := hdeps 3 (by simp) v3 rfl D3 rfl
      rw [hD3] at hd
      obtain ⟨a6, c6, rfl, hq⟩ := hd
      have Hp := Lib.hid hp
      have Hq := Lib.hid hq
      clear hp hq
      refine ⟨_, rfl, by rfl, fun K hK => ?_⟩
      go_simp
      refine hK.out _ _ Seq.way (holds_of (D := D4) rfl ?_)
      rw [hD4]
      exact ⟨_, _, _, _, _, rfl, hzy, Row.new y [_, _, _, _] _ rfl, (Hp.out.bnd.at Seq.way).mono (fun b hb _ => ⟨by have := hb.2; omega, hb.1⟩) (fun _ _ _ => rfl), (Hq.out.bnd.at Seq.way).mono (fun b hb _ => ⟨by have := hb.2; omega, hb.1⟩) (fun _ _ _ => rfl)⟩
    · refine ⟨_, rfl, by rfl, fun K hK => ?_⟩
      go_simp
      refine hK.out _ _ Seq.way (holds_of (D := D5) rfl ?_)
      rw [hD5]
      exact ⟨_, rfl, hzy, Row.new y [_, _] _ rfl⟩
    · have hd := hdeps 4 (by simp) v4 rfl D4 rfl
      rw [hD4] at hd
      obtain ⟨b5, q0, q1, q2, q3, rfl, hp⟩ := hd
      have hd := hdeps 5 (by simp) v5 rfl D5 rfl
      rw [hD5] at hd
      obtain ⟨b6, rfl, hq⟩ := hd
      have Hp := Lib.hid hp
      have Hq := Lib.hid hq
      clear hp hq
      refine ⟨_, rfl, by rfl, fun K hK => ?_⟩
      go_simp
      refine hK.out _ _ (Below.refl _ _) (holds_of (D := D6) rfl ?_)
      rw [hD6]
      obtain ⟨hp1, hp2, hp3, hp4⟩ := Hp.out
      obtain ⟨hq1, hq2⟩ := Hq.out
      exact ⟨⟨b5, b6, q0, q1, q2, q3, rfl, hp1, hp2, hp3, hp4, edges1 hq2 ⟨row_unlike hq2 hp2 (by simp), hq1⟩ ⟨by decide, by decide⟩ ⟨by decide, by decide⟩⟩, _, _, rfl⟩
  intro vs y hvs hby0 hhas
  obtain ⟨v0, v1, v2, v3, v4, v5, v6, rfl⟩ : ∃ v0 v1 v2 v3 v4 v5 v6, vs = [v0, v1, v2, v3, v4, v5, v6] := by
    match vs, hvs with
    | [v0, v1, v2, v3, v4, v5, v6], _ => exact ⟨v0, v1, v2, v3, v4, v5, v6, rfl⟩
  have x6 := hhas 6 v6 rfl D6 rfl
  rw [hD6] at x6
  obtain ⟨hx, xa, xc, rfl⟩ := x6
  have HX := Lib.hid hx
  have HY := Lib.hid (below_step hby0 (Seq.way : Below W0.heap.size W0 W0.drew))
  clear hx hhas hvs hD0 hD1 hD2 hD3 hD4 hD5 hD6 D0 D1 D2 D3 D4 D5 D6 hby0
  simp only [putsL, Act.put, List.setIfInBounds_toArray, List.set_cons_zero, List.set_cons_succ]
  have hRy := (R0.out.at HY.out).row
  have e0 := hRy.cell (j := 0) (by simp)
  have e1 := hRy.cell (j := 1) (by simp)
  have e2 := hRy.cell (j := 2) (by simp)
  have f0 := hRy.frozen 0
  have f1 := hRy.frozen 1
  have f2 := hRy.frozen 2
  have hbl := hRy.lt
  simp only [List.getElem_cons_zero, List.getElem_cons_succ] at e0 e1 e2
  obtain ⟨Y, hY⟩ : ∃ Y, Y = ((y.setCell ⟨br, 0, none⟩ (.slice (some ⟨xa, 0, none⟩) 2 2)).setCell ⟨br, 1, none⟩ (.slice none 0 0)).setCell ⟨br, 2, none⟩ (.slice (some ⟨xc, 0, none⟩) 1 1) := ⟨_, rfl⟩
  have hRY := Lib.hid (show Row 26 Y br [.slice (some ⟨xa, 0, none⟩) 2 2, .slice none 0 0, .slice (some ⟨xc, 0, none⟩) 1 1] by rw [hY]; exact ((hRy.set 0 _).set 1 _).set 2 _)
  have hYb := Lib.hid (show ∀ b, b ≠ br → Y.heap[b]? = y.heap[b]? from fun b hb => by
    rw [hY, Below.heap_setCell _ _ _ _ hb, Below.heap_setCell _ _ _ _ hb, Below.heap_setCell _ _ _ _ hb])
  have hBY := Lib.hid (show Below br W0 Y by rw [hY]; exact (((HY.out.mono (Nat.le_of_lt hbrl)).setCell (Nat.le_refl _) _).setCell (Nat.le_refl _) _).setCell (Nat.le_refl _) _)
  have HYY := Lib.hid hY
  have HXY := Lib.hid (show TwoV w.heap.size Y (.agg #[.slice (some ⟨xa, 0, none⟩) 2 2, .slice none 0 0, .slice (some ⟨xc, 0, none⟩) 1 1]) from (HX.out.move (w' := Y) fun b hb => hYb.out b (by omega)).mono HB0.out.size)
  have hcb := Lib.hid (show bc ≠ br from by have h1 := Hbc.out; have h2 := Hbr.out; omega)
  have hSY := Lib.hid (show Y.cell? ⟨bc, 0, none⟩ = some (.int .i64 1) ∧ Y.cell? ⟨bc, 1, none⟩ = some (.string ⟨#[]⟩) ∧ Y.cell? ⟨bc, 2, none⟩ = some (.int .i64 0) from by
    have h := (KC HY.out).out
    exact ⟨(World.cell?_of_block (hYb.out bc hcb.out)).trans h.1, (World.cell?_of_block (hYb.out bc hcb.out)).trans h.2.1, (World.cell?_of_block (hYb.out bc hcb.out)).trans h.2.2⟩)
  clear hY hRy
  refine wpAnyH_one (i := 10) (by kernel_rfl) rfl (by rfl) fun K hK => ?_
  go_simp
  rw [← HYY.out]
  refine hK.out _ _ hSY.out fun hHeld => ?_
  clear hK K hHeld
  (try simp only [Act.put, List.getElem_toArray, List.getElem_cons_zero, List.getElem_cons_succ, List.setIfInBounds_toArray, List.set_cons_zero, List.set_cons_succ])
  refine wpAnyH_done (by kernel_rfl) ?_ _
  refine NoPanic.normal ?_
  have c0 := hRY.out.cell (j := 0) (by simp)
  have c1 := hRY.out.cell (j := 1) (by simp)
  have c2 := hRY.out.cell (j := 2) (by simp)
  simp only [List.getElem_cons_zero, List.getElem_cons_succ] at c0 c1 c2
  clear e0 e1 e2 f0 f1 f2
  go_wp2_with fail
  refine bodyPost_ret (v := .agg #[.slice (some ⟨xa, 0, none⟩) 2 2, .slice none 0 0, .slice (some ⟨xc, 0, none⟩) 1 1]) (by simp [results, Try.results10, go_sem, c0, c1, c2]) rfl ?_
  have hbw := Hbr.out
  exact ⟨_, rfl, below_step' HB0.out hBY.out (by omega), HXY.out⟩

set_option maxHeartbeats 3200000 in
set_option maxRecDepth 100000 in
theorem great_spec {S : Nat → Prop} {w : World} {v : Value} {r : Res} (hr : ResV S w v r) : Calls Try.prog 5 #[v] w (RetV (.bool (greatB r)) w) := by
  obtain ⟨ta, tc, ia, il, ic, la, lc, rfl, hT, hE⟩ := hr
  obtain ⟨W, hW⟩ : ∃ W, W = w.alloc (.cells #[.slice ta r.tabs.length tc, .slice ia il ic, .slice la r.lks.length lc] 26) := ⟨_, rfl⟩
  have HBW := Lib.hid (show Below w.heap.size w W by rw [hW]; exact Seq.way)
  have HT := Lib.hid (hT.any.at HBW.out)
  have HE := Lib.hid (hE.any.at HBW.out)
  have HW := Lib.hid hW
  obtain ⟨bt, hbt⟩ : ∃ b, b = w.heap.size := ⟨_, rfl⟩
  have Hbt := Lib.hid hbt
  have HR := Lib.hid (show RowA 26 W bt [.slice ta r.tabs.length tc, .slice ia il ic, .slice la r.lks.length lc] by rw [hW, hbt]; exact Row.new w [_, _, _] _ rfl)
  have Kr := fun {W' : World} (h : Below W.heap.size W W') => Lib.hid (show W'.cell? ⟨bt, 0, none⟩ = some (.slice ta r.tabs.length tc) ∧ W'.cell? ⟨bt, 1, none⟩ = some (.slice ia il ic) ∧ W'.cell? ⟨bt, 2, none⟩ = some (.slice la r.lks.length lc) ∧ bt < W'.heap.size from
    ⟨(HR.out.at h).row.cell (j := 0) (by simp), (HR.out.at h).row.cell (j := 1) (by simp), (HR.out.at h).row.cell (j := 2) (by simp), (HR.out.at h).row.lt⟩)
  clear hT hE hW hbt
  have hdef := Lib.hid (show greatB r = (!fewB r.tabs || decide (200 < r.lks.length) || !mayB r) from rfl)
  go_enter Try.func5, Try.ntmps5
  go_upto_region 1 with fail
  rw [← HW.out, ← Hbt.out]
  obtain ⟨r0, r1, r2, rl⟩ := (Kr (Below.refl _ W)).out
  go_wp2_with fail
  refine (FewR14_spec HT.out).mono ?_
  rintro e _ ⟨rfl, rfl⟩
  cases hf : fewB r.tabs with
  | false =>
    have hd := Lib.hid (show greatB r = true by rw [hdef.out, hf]; rfl)
    clear hf
    go_wp2_with fail
    go_ret
    exact ⟨ret_bool hd.out.symm, HBW.out⟩
  | true =>
    have Hf := Lib.hid hf
    by_cases hl : 200 < r.lks.length
    · have hd := Lib.hid (show greatB r = true by rw [hdef.out, decide_eq_true hl]; simp)
      have hl2 : (200 : Int) < (r.lks.length : Int) := by omega
      have hl3 : (r.lks.length : Int) > 200 := by omega
      clear hf
      go_wp2_with fail
      go_ret
      exact ⟨ret_bool hd.out.symm, HBW.out⟩
    · have hd := Lib.hid (show greatB r = !mayB r by rw [hdef.out, hf, decide_eq_false hl]; rfl)
      have hl2 : ((200 : Int) < (r.lks.length : Int)) = False := eq_false (by omega)
      have hl3 : ((r.lks.length : Int) > 200) = False := eq_false (by omega)
      have hl4 : (200 < r.lks.length) = False := eq_false hl
      have Hl := Lib.hid hl
      clear hf hl
      go_wp2_with fail
      refine (MayR23_spec (ResV.mk (HT.out.at Seq.way) (HE.out.at Seq.way)) Hf.out (by have := Hl.out; omega)).mono ?_
      rintro e w1 ⟨rfl, hb1⟩
      have HB1 := Lib.hid (below_step (below_step hb1 Seq.way) HBW.out)
      clear hb1
      go_wp2_with fail
      go_ret
      exact ⟨ret_bool (by rw [hd.out]; try simp), HB1.out⟩
end
section
open Go Go.RowKit

def nC : Cell := ⟨2, ⟨#[]⟩, 1⟩
def qT : List Cell := oneT ⟨#[113]⟩ nC
def pT : List Cell := oneT ⟨#[112]⟩ nC
def rT : List Cell := oneT ⟨#[114]⟩ nC
def nowR : Res := ⟨[⟨pX, []⟩, ⟨qX, [qT]⟩], [(0, 1)]⟩
def lessR : Res := ⟨[⟨pX, []⟩], []⟩
def noneR : Res := ⟨[], []⟩
theorem nC_ok : CellW2 nC := cellW2_of (by decide) (by decide) (by decide)
theorem hd_e1 : natsZ (touchL twoR [qT]) = [1] := by decide +kernel
theorem hd_e2 : natsZ (dirtyL twoR [qT]) = [0, 1] := by decide +kernel
theorem hd_e3 : natsZ (dirtyL twoR [pT]) = [0] := by decide +kernel
theorem hd_e4 : (cmpsL twoR).map natsZ = [[1], [0]] := by decide +kernel
theorem hd_e5 : natsZ (againL twoR nowR [qT]) = [0, 1] := by decide +kernel
theorem hd_e6 : natsZ (againL twoR twoR [qT]) = [1] := by decide +kernel
theorem hd_e7 : natsZ (againL twoR nowR []) = [0] := by decide +kernel
theorem hd_e8 : natsZ (againL twoR lessR [rT]) = [0] := by decide +kernel
theorem hd_e9 : natsZ (againL twoR twoR [rT]) = [] := by decide +kernel
theorem hd_e10 : natsZ (touchL twoR [rT]) = [] := by decide +kernel
theorem hd_e11 : (cmpsL noneR).map natsZ = [] := by decide +kernel
theorem hd_rq : RightT qT := by decide +kernel
theorem hd_rp : RightT pT := by decide +kernel
theorem hd_rr : RightT rT := by decide +kernel
theorem hd_px : RightT pX := by decide +kernel
theorem hd_qx : RightT qX := by decide +kernel
theorem twoR_right : ∀ t ∈ twoR.tabs, RightT t.call := by
  intro t ht
  unfold twoR at ht
  simp only [List.mem_cons, List.not_mem_nil, or_false] at ht
  rcases ht with rfl | rfl
  · exact hd_px
  · exact hd_qx
theorem twoR_ok : ResOK twoR := by
  refine ⟨by decide, by decide, fun t ht => ?_, fun e he => ?_⟩
  · unfold twoR at ht
    simp only [List.mem_cons, List.not_mem_nil, or_false] at ht
    rcases ht with rfl | rfl
    · show pX.length ≤ 1000; decide
    · show qX.length ≤ 1000; decide
  · unfold twoR at he
    simp only [List.mem_cons, List.not_mem_nil, or_false] at he
    subst he
    decide
theorem noneR_ok : ResOK noneR := ⟨by decide, by decide, fun t ht => absurd ht List.not_mem_nil, fun e he => absurd he List.not_mem_nil⟩
theorem chg_one {t : List Cell} (h : RightT t) : ChgOK [t] := ⟨by simp, fun x hx => by rw [List.mem_singleton] at hx; subst hx; exact h⟩
theorem chg_none : ChgOK [] := ⟨by simp, fun x hx => absurd hx List.not_mem_nil⟩
end
end Go.Proofs.Ytbcambjonjhopaa
