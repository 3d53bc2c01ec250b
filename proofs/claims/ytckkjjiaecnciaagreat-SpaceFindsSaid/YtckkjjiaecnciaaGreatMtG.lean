/-
  A map of slices: an entry met, and written, in two operations.
-/
import Derived.Test.YtckkjjiaecnciaaGreatMtB
import Derived.WideKeyEntry
namespace Go.Proofs.YtckkjjiaecnciaaGreat
open Go Go.RowKit Go.WideElems Go.ChangeMaps Go.ChangeShapes Go.WideShapes

theorem entry_own {P : Program} {k e t : TypeId} (K : Go.Maps.Keyed P k) (ht : P.underlying t = some (.map k e)) {z : Value} (hz : ∀ u : World, (zeroValue e).run P u = .ok z u) {w : World} {B n : Nat} {D : DataW Value}
    (h : w.ownsMap P k Rv B n D) (hn : n < maxLen) {key : Value} {kl : Lit} (hkey : keyOf P k key = some kl) (val : Value) :
    ∃ (v0 : Value) (st : Nat) (w1 w2 : World), (Instr.mapEntry t (.map (some B)) key).run P w = .ok (.tuple #[v0, goInt st]) w1 ∧ (Instr.entryStore t (.map (some B)) (goInt st) val).run P w1 = .ok () w2 ∧
      w2.ownsMap P k Rv B (n + 1) (D.put kl (.held val)) ∧ w.grownBy w2 (some B) ∧ w.grownBy w1 (some B) := by
  obtain ⟨wu, hu, r1, r2⟩ := h.update K ht hn hkey (val := val) (d := .held val) (ps := []) rfl
  obtain ⟨es, clock, hb, F, hs, rfl⟩ := h
  obtain ⟨s1, s2, -⟩ := F.stamped
  have hgrow : ∀ o, w.grownBy (setBlock w B o) (some B) := fun o => ⟨rfl, rfl, rfl, by simp [setBlock], fun i _ hi => by
    simp only [setBlock]
    rw [Array.getElem?_setIfInBounds_ne (fun e => hi (by rw [e]))]⟩
  have hat : ∀ o, (setBlock w B o).heap[B]? = some o := fun o => by
    have hB := (Array.getElem?_eq_some_iff.1 hb).1
    simp [setBlock, hB]
  have htwo : ∀ o o', setBlock (setBlock w B o) B o' = setBlock w B o' := fun o o' => by simp [setBlock]
  rcases K.find w hkey es.toList F.keys with ⟨f1, -⟩ | ⟨j, e0, f1, f2, f3⟩
  · have hup : wu = setBlock w B (.map (es.push ⟨key, val, clock⟩) (clock + 1)) := by
      simp [Instr.mapUpdate, run_underlying ht, MapKept.run_getObj_map hb, K.check w false hkey, f1, MapKept.run_setObj_map _ hb, Result.andThen] at hu
      exact hu.symm
    refine ⟨z, clock, setBlock w B (.map (es.push ⟨key, z, clock⟩) (clock + 1)), wu, ?_, ?_, r1, r2, hgrow _⟩
    · simp [Instr.mapEntry, run_underlying ht, MapKept.run_getObj_map hb, K.check w false hkey, f1, hz, MapKept.run_setObj_map _ hb, Result.andThen, setBlock]
    · have hix : (es.push ⟨key, z, clock⟩).findIdx? (fun e => ((e.born : Nat) : Int) == ((clock : Nat) : Int)) = some es.size := by
        rw [findIdx_arr]
        refine findIdx_born (l := (es.push ⟨key, z, clock⟩).toList) (j := es.size) (e0 := ⟨key, z, clock⟩) ?_ (by simp)
        rw [Array.toList_push, List.map_append]
        exact List.nodup_append.2 ⟨s2, by simp, fun a ha c hc hac => by
          obtain ⟨x, hx, rfl⟩ := List.mem_map.1 ha
          have hc' : c = clock := by simpa using hc
          have := s1 x hx
          omega⟩
      have hmd : (es.push ⟨key, z, clock⟩).modify es.size (fun e => { e with val := val }) = es.push ⟨key, val, clock⟩ := by
        apply Array.ext'
        rw [Array.toList_modify, Array.toList_push, Array.toList_push, ← Array.length_toList, modify_last]
      have hb1 := hat (.map (es.push ⟨key, z, clock⟩) (clock + 1))
      rw [hup, ← htwo (.map (es.push ⟨key, z, clock⟩) (clock + 1)) (.map (es.push ⟨key, val, clock⟩) (clock + 1))]
      generalize setBlock w B (.map (es.push ⟨key, z, clock⟩) (clock + 1)) = w1 at hb1
      simp [Instr.entryStore, MapKept.run_getObj_map hb1, asInt, asIntOf, goInt, hix, hmd, MapKept.run_setObj_map _ hb1, Result.andThen, setBlock]
  · have hj : es[j]? = some e0 := by simpa using f2
    have hsame : es.modify j (fun e => { e with key := key }) = es := by
      apply Array.ext'
      rw [Array.toList_modify, modify_eq_set _ _ _ _ f2, show ({ e0 with key := key } : MapEntry) = e0 by rw [← f3]]
      exact set_self _ _ _ f2
    have hself : setBlock w B (.map es clock) = w := by
      have hB := (Array.getElem?_eq_some_iff.1 hb).1
      have : w.heap.setIfInBounds B (.map es clock) = w.heap := by
        apply Array.ext_getElem?
        intro i
        rw [Array.getElem?_setIfInBounds]
        split
        · rename_i h; subst h; rw [hb]
        · rfl
      simp only [setBlock, this]
    have hup : wu = setBlock w B (.map (es.modify j (fun e' => { e' with key := key, val := val })) clock) := by
      simp [Instr.mapUpdate, run_underlying ht, MapKept.run_getObj_map hb, K.check w false hkey, f1, hj, f3, K.stays w hkey, MapKept.run_setObj_map _ hb, Result.andThen] at hu
      exact hu.symm
    refine ⟨e0.val, e0.born, w, wu, ?_, ?_, r1, r2, World.grownBy.refl _ _⟩
    · have hself' := hself
      unfold setBlock at hself'
      simp [Instr.mapEntry, run_underlying ht, MapKept.run_getObj_map hb, K.check w false hkey, f1, hj, f3, K.stays w hkey, hsame, MapKept.run_setObj_map _ hb, Result.andThen, hself']
    · have hix : es.findIdx? (fun e => ((e.born : Nat) : Int) == ((e0.born : Nat) : Int)) = some j := by
        rw [findIdx_arr]
        exact findIdx_born s2 f2
      have hmd : es.modify j (fun e => { e with val := val }) = es.modify j (fun e' => { e' with key := key, val := val }) := by
        apply Array.ext'
        rw [Array.toList_modify, Array.toList_modify, modify_eq_set _ _ _ _ f2, modify_eq_set _ _ _ _ f2, ← f3]
      rw [hup]
      simp [Instr.entryStore, MapKept.run_getObj_map hb, asInt, asIntOf, goInt, hix, hmd, MapKept.run_setObj_map _ hb, Result.andThen, setBlock]

section
variable {P : Program} {o : Oper} {a : Act} {K : Act → World → Prop} {Q : Exit → Act → World → Prop}
theorem op_entry {w w1 : World} {v mv key : Value} (m x : Operand) (t : TypeId) (hop : o.op = Op.mapEntry t m x) (hm : a.eval m = mv) (hx : a.eval x = key) (hrun : (Instr.mapEntry t mv key).run P w = .ok v w1) (hK : K (a.put o.dst v) w1) : o.wp P a w K Q := by
  unfold Oper.wp
  simp [execOp, hop, hm, hx, hrun, Result.andThen]
  exact hK
theorem op_entryStore {w w1 : World} {mv st val : Value} (m x y : Operand) (t : TypeId) (hop : o.op = Op.entryStore t m x y) (hm : a.eval m = mv) (hx : a.eval x = st) (hy : a.eval y = val) (hrun : (Instr.entryStore t mv st val).run P w = .ok () w1) (hK : K (a.put o.dst undef) w1) : o.wp P a w K Q := by
  unfold Oper.wp
  simp [execOp, hop, hm, hx, hy, hrun, Result.andThen]
  exact hK
end

/-- What is bound, overwritten by the same, or bound anew. -/
theorem bindS_snoc1 (s : List Bnd) (b : Bnd) (n : Int) : bindS (s ++ [b]) n = (bindS s n).or (if b.var = n then some b.t else none) := by
  unfold bindS
  rw [List.find?_append]
  cases h : s.find? (fun b => decide (b.var = n)) with
  | some b => simp
  | none =>
    simp only [Option.none_or, Option.map_none]
    rw [List.find?_singleton]
    split <;> simp_all
theorem tabD_put1 {S : Nat → Prop} {w : World} {s u : List Bnd} {D : DataW Value} {m : Int} {x : List Cell} (h : TabD S w s D) {v : Value} (hv : Seq cellE S w v x) (hu : ∀ n, bindS u n = if n = m then some x else bindS s n) :
    TabD S w u (D.put (.int .i64 m) (.held v)) := by
  refine ⟨h.1.put _ _, fun n => ?_⟩
  rw [hu]
  by_cases e : n = m
  · subst e
    rw [if_pos rfl]
    refine ⟨fun h => by simp at h, fun t ht => ?_⟩
    simp only [Option.some.injEq] at ht
    subst ht
    exact ⟨Maps.has_put_same h.1 (by simp [WideAt.IsKeyLit]) _, v, fun z => Maps.atKey_put_same h.1 (by simp [WideAt.IsKeyLit]) _ z, hv⟩
  · have e' : (Lit.int .i64 n) ≠ Lit.int .i64 m := fun h => by injection h with _ h; exact e h
    rw [if_neg e, Maps.has_put_other e']
    refine ⟨(h.2 n).1, fun t ht => ?_⟩
    obtain ⟨h1, v, h2, h3⟩ := (h.2 n).2 t ht
    exact ⟨h1, v, fun z => by rw [Maps.atKey_put_other e']; exact h2 z, h3⟩
end Go.Proofs.YtckkjjiaecnciaaGreat
