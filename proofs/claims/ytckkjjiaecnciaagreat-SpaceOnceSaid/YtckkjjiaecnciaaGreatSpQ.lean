/-
  Layer 14, the law: what one answer more makes of tables; contracts with answers known.
-/
import Derived.Test.YtckkjjiaecnciaaGreatSpV
namespace Go.Proofs.YtckkjjiaecnciaaGreat
open Go Go.RowKit

theorem sameall14 {S T : Nat → Prop} {w : World} {v u : Value} {a b : List (List Cell)} (h : a = b) (ha : Seq (seqE cellE) S w v a) (hb : Seq (seqE cellE) T w u b) : Calls Tryz.prog 27 #[v, u] w (RetV (.bool true) w) := by
  have h2 := sameall_bool ha hb
  rwa [decide_eq_true h] at h2
theorem sameTs14 {S T : Nat → Prop} {w : World} {v u : Value} {a b : List Tab} (h : a = b) (ha : Seq tabE S w v a) (hb : Seq tabE T w u b) : Calls Tryz.prog 20 #[v, u] w (RetV (.bool true) w) := by
  subst h; exact sameR14 ha hb
theorem same1_14 {S T : Nat → Prop} {w : World} {v u : Value} {a b : List Cell} (h : a = b) (ha : Seq cellE S w v a) (hb : Seq cellE T w u b) : Calls Tryz.prog 28 #[v, u] w (RetV (.bool true) w) := by
  subst h; exact same14 ha hb
theorem inst14 {S T : Nat → Prop} {w : World} {v u : Value} {c t : List Cell} {b : Bool} (h : instB c t = b) (hc : Seq cellE S w v c) (ht : Seq cellE T w u t) (hpos : c.length ≤ 1000) (hl : t.length ≤ 1000) : Calls Tryz.prog 25 #[v, u] w (RetV (.bool b) w) := h ▸ InstanceR14_spec hc ht hpos hl
theorem has14 {S T : Nat → Prop} {w : World} {v u : Value} {l : List (List Cell)} {t : List Cell} {b : Bool} (h : hasT l t = b) (hl : Seq (seqE cellE) S w v l) (ht : Seq cellE T w u t) : Calls Tryz.prog 26 #[v, u] w (RetV (.bool b) w) := h ▸ has_bool hl ht
/-- The cells of a table. -/
structure TabC (w : World) (b o k : Nat) (u1 u2 : Value) : Prop where
  lt : b < w.heap.size
  c0 : w.cell? ⟨b, o + k * 2, none⟩ = some u1
  c1 : w.cell? ⟨b, o + k * 2 + 1, none⟩ = some u2
theorem TabC.at {w w' : World} {b o k : Nat} {u1 u2 : Value} (h : TabC w b o k u1 u2) (hb : Below w.heap.size w w') : TabC w' b o k u1 u2 :=
  ⟨Nat.lt_of_lt_of_le h.lt hb.size, (hb.cell (p := ⟨b, o + k * 2, none⟩) h.lt).trans h.c0, (hb.cell (p := ⟨b, o + k * 2 + 1, none⟩) h.lt).trans h.c1⟩
/-- What one answer more makes of tables. -/
theorem tabK {S : Nat → Prop} {w : World} {v : Value} {s : List Tab} {x : Tab} (hs : Seq tabE S w v s) {k : Nat} (hx : s[k]? = some x) : ∃ b o ha hc la lc c, v = .slice (some ⟨b, o, none⟩) s.length c ∧ b < w.heap.size ∧ w.cell? ⟨b, o + k * 2, none⟩ = some (.slice ha x.call.length hc) ∧ w.cell? ⟨b, o + k * 2 + 1, none⟩ = some (.slice la x.ans.length lc) ∧ Seq cellE S w (.slice ha x.call.length hc) x.call ∧ Seq (seqE cellE) S w (.slice la x.ans.length lc) x.ans := by
  obtain ⟨ao, cap, rfl, -, -, -, -, x5⟩ := hs
  obtain ⟨hk, rfl⟩ := List.getElem?_eq_some_iff.1 hx
  obtain ⟨b, off, ha, hc, la, lc, rfl, -, lb, c0, c1, hH, hA⟩ := x5.tab hk
  exact ⟨b, off, ha, hc, la, lc, cap, rfl, lb, c0, c1, hH, hA⟩
structure OneMore (s a : List Tab) (k : Nat) (x y : Tab) (t : List Cell) : Prop where
  len : a.length = s.length
  at1 : a[k]? = some y
  call : y.call = x.call
  ans : y.ans = x.ans ++ [t]
  tk : a.take k = s.take k
  dr : a.drop (k + 1) = s.drop (k + 1)
  tot : totalT a = totalT s + 1
  few : ∀ x ∈ a, x.ans.length ≤ 1000000
  new : newA a (k : Int) t = false
  again : answerT a (k : Int) t = (a, false)
theorem tot_set : ∀ {s : List Tab} {k : Nat} (hk : k < s.length) (y : Tab), totalT (s.set k y) + s[k].ans.length = totalT s + y.ans.length
  | x :: s, 0, _, y => by simp [totalT]; omega
  | x :: s, k + 1, hk, y => by
    have h := tot_set (s := s) (k := k) (by simpa using hk) y
    unfold totalT at h ⊢
    simp only [List.set_cons_succ, List.map_cons, List.sum_cons, List.getElem_cons_succ]
    omega
theorem oneMore {s : List Tab} (hg : GoodS s) {k : Nat} (hk : k < s.length) (t : List Cell) : OneMore s (s.set k ⟨s[k].call, s[k].ans ++ [t]⟩) k s[k] ⟨s[k].call, s[k].ans ++ [t]⟩ t := by
  have hk2 : k < (s.set k ⟨s[k].call, s[k].ans ++ [t]⟩).length := by rw [List.length_set]; exact hk
  have hn : newA (s.set k ⟨s[k].call, s[k].ans ++ [t]⟩) (k : Int) t = false := by
    rw [newA_at hk2]
    simp [hasT]
  refine ⟨List.length_set, List.getElem?_set_self hk, rfl, rfl, by rw [List.take_set_of_le (Nat.le_refl _)], by rw [List.drop_set_of_lt (by omega)], ?_, fun x hx => ?_, hn, ?_⟩
  · have h := tot_set hk ⟨s[k].call, s[k].ans ++ [t]⟩
    simp only [List.length_append, List.length_singleton] at h
    omega
  · rcases List.mem_or_eq_of_mem_set hx with h | rfl
    · exact good_ans hg x h
    · have := hg.anl _ (List.getElem_mem hk)
      simp only [List.length_append, List.length_singleton]; omega
  · unfold answerT
    rw [hn]; rfl

theorem answer14n {S T : Nat → Prop} {w : World} {v u : Value} {s r : List Tab} {t : List Cell} {n : Int} {b : Bool} {m : Nat} (h : answerT s n t = (r, b)) (h2 : newA s n t = b) (hm : r.length = m) (hs : Seq tabE S w v s) (ht : Seq cellE T w u t) (hl : s.length ≤ 1000) (ha : ∀ x ∈ s, x.ans.length ≤ 1000000) :
    Calls Tryz.prog 14 #[v, .int .i64 n, u] w (fun e w' => ∃ ao ac, e = .returned (.tuple #[.slice ao m ac, .bool b]) ∧ Below w.heap.size w w' ∧ Seq tabE (fun _ => True) w' (.slice ao m ac) r) := by
  subst hm; exact answer14 h h2 hs ht hl ha
theorem totalI14 {S : Nat → Prop} {w : World} {v : Value} {s : List Tab} {z : Int} (h : (totalT s : Int) = z) (hs : Seq tabE S w v s) (hl : s.length ≤ 1000) (ha : ∀ t ∈ s, t.ans.length ≤ 1000000) : Calls Tryz.prog 22 #[v] w (RetV (.int .i64 z) w) := h ▸ TotalP_spec hs hl ha
theorem tabK2 {S : Nat → Prop} {w : World} {v : Value} {s : List Tab} {x : Tab} {c : List Cell} {l : List (List Cell)} {n : Nat} (hs : Seq tabE S w v s) {k : Nat} (hx : s[k]? = some x) (hc : x.call = c) (ha : x.ans = l) (hn : l.length = n) : ∃ b o h1 h2 la lc a cap, v = .slice a s.length cap ∧ a = some ⟨b, o, none⟩ ∧ b < w.heap.size ∧ w.cell? ⟨b, o + k * 2, none⟩ = some (.slice h1 c.length h2) ∧ w.cell? ⟨b, o + k * 2 + 1, none⟩ = some (.slice la n lc) ∧ Seq cellE S w (.slice h1 c.length h2) c ∧ Seq (seqE cellE) S w (.slice la n lc) l := by
  subst hc ha hn
  obtain ⟨b, o, h1, h2, la, lc, c, e, lb, c0, c1, hH, hA⟩ := tabK hs hx
  exact ⟨b, o, h1, h2, la, lc, _, c, e, rfl, lb, c0, c1, hH, hA⟩
/-- A row's length and capacity. -/
theorem Seq.caps {α : Type} {E : Elt α} {S : Nat → Prop} {w : World} {a : Option Addr} {n c : Nat} {l : List α} (h : Seq E S w (.slice a n c) l) : n = l.length ∧ l.length ≤ c := by
  obtain ⟨_, _, e, h1, -⟩ := h
  simp only [Value.slice.injEq] at e
  obtain ⟨-, rfl, rfl⟩ := e
  exact ⟨rfl, h1⟩
theorem lastK {S : Nat → Prop} {w : World} {a : Option Addr} {n c : Nat} {l : List (List Cell)} {t : List Cell} (h : Seq (seqE cellE) S w (.slice a n c) (l ++ [t])) : ∃ b o ta tc, a = some ⟨b, o, none⟩ ∧ b < w.heap.size ∧ w.cell? ⟨b, o + l.length, none⟩ = some (.slice ta t.length tc) ∧ Seq cellE S w (.slice ta t.length tc) t := by
  obtain ⟨ao, cap, e, -, -, -, -, x5⟩ := h
  simp only [Value.slice.injEq] at e
  obtain ⟨rfl, -, -⟩ := e
  have hl : l.length < (l ++ [t]).length := by simp
  obtain ⟨b, o, ta, tc, e2, -, lb, c0, hX⟩ := x5.seq hl
  have he : (l ++ [t])[l.length] = t := by simp
  rw [he] at c0 hX
  exact ⟨b, o, ta, tc, e2, lb, c0, hX⟩
theorem Seq.takeN {α : Type} {E : Elt α} {S : Nat → Prop} {w : World} {a : Option Addr} {n c : Nat} {l : List α} (h : Seq E S w (.slice a n c) l) {j : Nat} (hj : j ≤ l.length) : Seq E S w (.slice a j c) (l.take j) := by
  obtain ⟨rfl, -⟩ := h.caps
  exact h.take hj
theorem addT {b o j : Nat} : (some (⟨b, o + j * 2, none⟩ : Addr)) = (some (⟨b, o, none⟩ : Addr)).map (·.add (j * tabE.sz)) := by
  show _ = some (Addr.add ⟨b, o, none⟩ (j * 2))
  unfold Addr.add
  split
  · rename_i h; rw [h, Nat.add_zero]
  · rfl
theorem Seq.dropT {S : Nat → Prop} {w : World} {b o n c : Nat} {l : List Tab} (h : Seq tabE S w (.slice (some ⟨b, o, none⟩) n c) l) {j : Nat} (hj : j ≤ l.length) {bo : Option Addr} (hbo : bo = if c = j then some ⟨b, o, none⟩ else some ⟨b, o + j * 2, none⟩) : Seq tabE S w (.slice bo (n - j) (c - j)) (l.drop j) := by
  obtain ⟨rfl, -⟩ := h.caps
  refine h.drop hj ?_ rfl rfl
  rw [hbo]
  split
  · rfl
  · exact addT
end Go.Proofs.YtckkjjiaecnciaaGreat
