/-
  Layer 18: the walk of ResidFacts.
-/
import Derived.Test.YtdbennmbbmoflaaPrT
import Derived.Test.YtdbennmbbmoflaaResQ
namespace Go.Proofs.Ytdbennmbbmoflaa
open Go Go.RowKit

theorem Own.lit1R {S : Nat → Prop} {base : Nat} {w : World} {h : Int} (hh : IntOK h) (hb : base ≤ w.heap.size) :
    Own ruleE S base 46 (w.alloc (.cells #[.int .i64 h, .slice none 0 0, .slice none 0 0] 46)) (.slice (some ⟨w.heap.size, 0, none⟩) 1 1) [⟨h, [], []⟩] := by
  refine ⟨[.int .i64 h, .slice none 0 0, .slice none 0 0], ⟨by simp [ruleE], .inr ⟨w.heap.size, 1, #[.int .i64 h, .slice none 0 0, .slice none 0 0], rfl, hb, heap_alloc_new w _, Nat.le_refl _, by simp [maxLen], by simp [ruleE], by simp [ruleE]⟩⟩, fun k x hx => ?_⟩
  obtain rfl : k = 0 := by have := (List.getElem?_eq_some_iff.1 hx).1; simp at this; omega
  simp at hx; subst hx
  exact ⟨_, ⟨_, _, rfl, hh, Seq.nil _ _ _, Seq.nil _ _ _⟩, fun j hj => by simp [ruleE]⟩

/-- Told to others, the block said. -/
theorem Own.seqB {α : Type} {E : Elt α} {S : Nat → Prop} {base : Nat} {e : TypeId} {w : World} {v : Value} {xs : List α} (h : Own E S base e w v xs)
    (hl : xs.length ≤ 140737488355328) {T : Nat → Prop} (hT : ∀ b, b < w.heap.size → S b ∨ v.ownBlock = some b → T b) : Seq E T w v xs := by
  obtain ⟨vs, h1, h2⟩ := h
  obtain ⟨ao, cap, rfl, h3, h4, h4'⟩ := own_shape h1
  refine ⟨ao, cap, rfl, h3, h4, hl, h4', fun k x hx => ?_⟩
  have hk : k < xs.length := (List.getElem?_eq_some_iff.1 hx).1
  obtain ⟨cs, h5, h6⟩ := h2 k x hx
  have hbnd : ∀ j, j < E.sz → k * E.sz + j < xs.length * E.sz := by
    intro j hj
    calc k * E.sz + j < k * E.sz + E.sz := by omega
      _ = (k + 1) * E.sz := by rw [Nat.add_mul, Nat.one_mul]
      _ ≤ xs.length * E.sz := Nat.mul_le_mul_right _ hk
  obtain ⟨g, cap', hv, hg, hlt, -, -⟩ := own_cell h1 (hbnd 0 E.pos)
  have hob : Value.ownBlock (.slice ao xs.length cap) = some g := by rw [hv]; rfl
  refine ⟨g, 0, cs, by simpa using congrArg (fun v : Value => match v with | .slice a _ _ => a | _ => none) hv, hT g hlt (.inr hob), hlt, E.mono h5 (fun b hb hlt => hT b hlt (.inl hb.1)) (fun _ _ _ => rfl), fun j hj => ?_⟩
  obtain ⟨g', cap'', hv', _, _, hc, _⟩ := own_cell h1 (hbnd j hj)
  rw [hv] at hv'
  simp only [Value.slice.injEq, Option.some.injEq, Addr.mk.injEq] at hv'
  obtain ⟨⟨rfl, _⟩, _⟩ := hv'
  rw [Nat.zero_add, hc, h6 j hj]

/-- What stands within ResidFacts' loop. -/
structure FactsM (lo : Nat) (w wx : World) (B8 : Nat) (va vb vAll vLess : Value) (g : Prog) (base : Nat) (all less : List Rule) : Prop where
  bel : Below w.heap.size w wx
  r : Row 30 wx B8 [va, vb]
  g : ProgV (fun b => b < lo) wx (.agg #[va, vb]) g
  all : Seq ruleE (fun b => vLess.ownBlock ≠ some b) wx vAll all
  less : Own ruleE (fun b => b < lo) base 46 wx vLess less
  hbox : B8 < base
  hlo : lo ≤ base
  hbase : base ≤ wx.heap.size
  wlo : w.heap.size ≤ lo

theorem FactsM.app {lo : Nat} {w wr W w7 : World} {B8 : Nat} {va vb vAll vL vL' : Value} {g : Prog} {base : Nat} {all rs rs' : List Rule} (h : FactsM lo w wr B8 va vb vAll vL g base all rs)
    (hW : Below wr.heap.size wr W) (hk : Kept base wr W w7 vL vL') (ho : Own ruleE (fun b => b < lo) base 46 w7 vL' rs') : FactsM lo w w7 B8 va vb vAll vL' g base all rs' := by
  have h1 := h.wlo
  have h2 := h.hlo
  have h3 := h.hbase
  have h4 := hW.size
  have h5 := hk.below.size
  have h6 := h.hbox
  refine ⟨h.bel.trans ((hW.mono h.bel.size).trans (hk.below.mono (by omega))), (h.r.below hW h.r.lt).below hk.below h6, h.g.mono (fun _ h _ => h) (fun b (hb : b < lo) hl => (hk.below.block b (by omega)).trans (hW.block b hl)), h.all.mono (fun b hb hl e => ?_) (fun b hb hl => (hk.keep b (by omega) hb).trans (hW.block b hl)), ho, h6, h2, by omega, h1⟩
  rcases hk.blk with h7 | h7
  · rw [h7] at e; exact hb e
  · rw [h7] at e
    simp only [Option.some.injEq] at e
    omega

theorem progP {S T : Nat → Prop} {w : World} {va vr : Value} {g P : Prog} {rs : List Rule} (ha : Seq (seqE cellE) S w va g.atoms) (hr : Seq ruleE T w vr rs) (hP : P = ⟨g.atoms, rs⟩) : ProgV (fun _ => True) w (.agg #[va, vr]) P := by
  subst hP
  exact ⟨va, vr, rfl, ha.mono (fun _ _ _ => trivial) fun _ _ _ => rfl, hr.mono (fun _ _ _ => trivial) fun _ _ _ => rfl⟩

theorem madeL_atoms (l : List Rule) (n : Nat) : 1 ≤ (madeL l n).atoms.length ∧ (madeL l n).atoms.length ≤ 12 := by
  have := manyN_pos n
  show 1 ≤ (atomsTo (manyN n)).length ∧ (atomsTo (manyN n)).length ≤ 12
  rw [atomsTo_len]
  exact this

theorem madeL_rules (l : List Rule) (n : Nat) : (madeL l n).rules.length ≤ 24 := by
  have h1 := rulesL_len (rulesM (manyN n) l (min l.length 24))
  have h2 := rulesM_len (manyN n) l (min l.length 24)
  show (rulesL _).length ≤ _
  omega

set_option maxHeartbeats 8000000 in
set_option maxRecDepth 100000 in
theorem facts_spec {w : World} {v0 : Value} {l : List Rule} {n at_ : Nat} (hl : Seq ruleE (fun b => b < w.heap.size) w v0 l) (hn : n < 256) (ha : at_ < 256) :
    Calls Try.prog 9 #[v0, .int .u8 n, .int .u8 at_] w (RetV (.bool true) w) := by
  have Hl := Lib.hid hl
  obtain ⟨la, lc, rfl, -⟩ := hl
  go_enter Try.func9, Try.ntmps9
  go_wp2_with fail
  refine (head_of doIs (w := w)).mono ?_
  rintro e w1 ⟨rfl, hb1⟩
  have z1 := hb1.size
  go_wp2_with fail
  refine (Made_spec (Hl.out.at hb1) hn).mono ?_
  rintro e w2 ⟨vg, rfl, hb2, hg⟩
  have hB2 : Below w.heap.size w w2 := hb1.trans (hb2.mono z1)
  have z2 := hB2.size
  obtain ⟨ga, gac, gra, grc, rfl⟩ := hg.shape
  obtain ⟨g, hgm⟩ : ∃ g, g = madeL l n := ⟨_, rfl⟩
  have hfine : FineP g := by rw [hgm]; exact madeL_fine l n
  have hal : 1 ≤ g.atoms.length ∧ g.atoms.length ≤ 12 := by rw [hgm]; exact madeL_atoms l n
  have hrl : g.rules.length ≤ 24 := by rw [hgm]; exact madeL_rules l n
  rw [← hgm] at hg ⊢
  clear hgm
  have Hg := Lib.hid (hg.mono (T := fun b => b < w2.heap.size) (fun b _ h => h) fun _ _ _ => rfl)
  clear hg hb1 hb2
  have hn0 : ((g.atoms.length : Int) == 0) = false := beq_eq_false_iff_ne.2 (by omega)
  have hal' := hal
  obtain ⟨a, hae, haa⟩ : ∃ a : Nat, ((at_ : Int) % (g.atoms.length : Int)) = (a : Int) ∧ a < g.atoms.length := ⟨at_ % g.atoms.length, by simp, Nat.mod_lt _ (by omega)⟩
  have iok : IntOK (a : Int) := ⟨by omega, by omega⟩
  clear hal'
  go_upto_region 4 with fail
  rw [hae]
  clear hae ha hn0
  obtain ⟨w3, hw3⟩ : ∃ w3, w3 = w2.alloc (.cells #[.slice ga g.atoms.length gac, .slice gra g.rules.length grc] 30) := ⟨_, rfl⟩
  have hR3 : Row 30 w3 w2.heap.size [.slice ga g.atoms.length gac, .slice gra g.rules.length grc] := by rw [hw3]; exact Row.new _ _ _ rfl
  have hb3 : Below w2.heap.size w2 w3 := by rw [hw3]; exact Seq.way
  have z3 : w3.heap.size = w2.heap.size + 1 := by rw [hw3]; simp
  rw [← hw3]
  have R3 := Lib.hid hR3
  have Hb3 := Lib.hid hb3
  have Z3 := Lib.hid z3
  have G3 := Lib.hid (Hg.out.at hb3)
  have c0 := hR3.cell (j := 0) (by simp)
  have c1 := hR3.cell (j := 1) (by simp)
  simp only [List.getElem_cons_zero, List.getElem_cons_succ] at c0 c1
  have l3 := hR3.lt
  clear hw3 hR3 hb3 z3
  have hlA : g.rules.length ≤ 24 := hrl
  obtain ⟨_, _, hag, -, hrs⟩ := G3.out
  simp only [Value.agg.injEq, Array.mk.injEq, List.cons.injEq, and_true] at hag
  obtain ⟨rfl, rfl⟩ := hag
  have Hrs := Lib.hid (hrs.at (w' := (w3.alloc (.cells #[] 46))) Seq.way)
  clear hrs
  go_wp2_with (at_builtin; refine wpList_appL (S := fun b => b < w2.heap.size) (base := w3.heap.size) (wm := (w3.alloc (.cells #[] 46))) (zs := g.rules) rfl (.tmp 25) (.tmp 27) 22 rfl Try.underlying22 infoRule rfl rfl (Own.lit0 rfl (Nat.le_refl _) rfl) (Below.refl _ _) rfl Hrs.out (fun b h _ => ⟨h, .inl (Nat.lt_of_lt_of_le h Hb3.out.size)⟩) rfl (by omega) (by omega) (by simp) ?_)
  intro ao1 cap1 w4 hown4 hk4
  have H4 := Lib.hid hown4
  have K4 := Lib.hid (Below.trans (Seq.way : Below w3.heap.size w3 (w3.alloc (.cells #[] 46))) hk4.below)
  have hob4 := Lib.hid hk4.blk
  have z4 : w3.heap.size + 1 ≤ w4.heap.size := by have := hk4.below.size; simpa using this
  clear hown4 hk4
  go_upto_region 5 with fail
  go_cut [8, 9, 10, 11] (fun s8 s9 s10 s11 wx => ∃ B8 base, s8 = .pointer (some ⟨B8, 0, none⟩) ∧ s9 = .int .i64 a ∧ FactsM w2.heap.size w wx B8 (.slice ga g.atoms.length gac) (.slice gra g.rules.length grc) s10 s11 g base (g.rules ++ [⟨(a : Int), [], []⟩]) (lessF a []))
  case first =>
    go_wp2_with (at_builtin; refine wpList_app_rule (S := fun b => b < w2.heap.size) (Sy := fun _ => False) (base := w3.heap.size) (y := ⟨(a : Int), [], []⟩) rfl (.tmp 32) (.tmp 35) 22 rfl Try.underlying22 infoRule rfl H4.out rfl Seq.way iok (Seq.nil _ _ _) (Seq.nil _ _ _) (fun b h _ => h.elim) ?_ ?_ ?_ ?_ ?_ ?_)
    any_goals (first | omega | (go_simp; done))
    intro ao2 cap2 w5 hown5 hk5
    have hWT : Below w4.heap.size w4 ((w4.alloc (.cells #[.int .i64 (a : Int), .slice none 0 0, .slice none 0 0] 46)).alloc (.cells #[.int .i64 (a : Int), .slice none 0 0, .slice none 0 0] 46)) := Seq.way
    have hKB : Below w3.heap.size w3 w5 := K4.out.trans ((hWT.mono (by omega)).trans hk5.below)
    have hless := ((Own.lit1R (S := fun b => b < w2.heap.size) (base := w4.heap.size) (w := w4) iok (Nat.le_refl _)).move (Seq.way (w' := (w4.alloc (.cells #[.int .i64 (a : Int), .slice none 0 0, .slice none 0 0] 46)).alloc (.cells #[.int .i64 (a : Int), .slice none 0 0, .slice none 0 0] 46)))).moveS (fun b hb h => hk5.block b h hb) (fun b hb (h : b < w2.heap.size) => hk5.below.block b (by have := Hb3.out.size; omega))
    have hall := hown5.seqB (by simp; omega) (T := fun b => Value.ownBlock (.slice (some ⟨w4.heap.size, 0, none⟩) 1 1) ≠ some b) (by
      intro b hb h e
      have e' : w4.heap.size = b := by simpa [Value.ownBlock] using e
      rcases h with h | h
      · have := Hb3.out.size
        have h' : b < w2.heap.size := h
        omega
      · rcases hk5.blk with h2 | h2
        · rw [h2] at h
          have := (H4.out.blk h).2
          omega
        · rw [h2] at h
          simp at h
          omega)
    have z5 : w4.heap.size + 2 ≤ w5.heap.size := by have := hk5.below.size; simpa using this
    have KB := Lib.hid hKB
    have HL := Lib.hid hless
    have HA := Lib.hid hall
    clear hKB hless hall hown5 hk5 hWT
    go_wp2_with fail
    go_meet
    have hz := Hb3.out.size
    exact ⟨_, w4.heap.size, rfl, rfl, ⟨hB2.trans ((Hb3.out.trans (KB.out.mono hz)).mono hB2.size), R3.out.below KB.out (by omega), G3.out.mono (fun _ h _ => h) (fun b (h : b < w2.heap.size) _ => KB.out.block b (by omega)), HA.out, HL.out, by omega, by omega, by omega, z2⟩⟩
  case rest =>
    obtain ⟨B8, base, rfl, rfl, HM⟩ := hcut
    clear H4 K4 hob4 z4 R3 Hb3 Z3 G3 c0 c1 l3 Hg Hl z1 Hrs hB2
    generalize w2.heap.size = lo at HM z2
    go_wp2_with fail
    go_loopw [11, 12] (fun vL i wr => ∃ (k : Nat) (rs : List Rule), k ≤ g.rules.length ∧ i = .int .i64 k ∧ Hid (rs = lessF (a : Int) (g.rules.take k)) ∧ FactsM lo w wr B8 (.slice ga g.atoms.length gac) (.slice gra g.rules.length grc) u10 vL g base (g.rules ++ [⟨(a : Int), [], []⟩]) rs) (fun _ i _ => g.rules.length - (intOf i).toNat)
    case atStart => exact ⟨0, _, Nat.zero_le _, rfl, Lib.hid rfl, HM⟩
    case round =>
      clear HM
      obtain ⟨k, rs, hk, rfl, hrs, HF⟩ := hrel
      have Q8 := HF.r.cell (j := 1) (by simp)
      have Q7 := HF.r.cell (j := 0) (by simp)
      simp only [List.getElem_cons_zero, List.getElem_cons_succ] at Q7 Q8
      have l8 := HF.r.lt
      by_cases hlt : k < g.rules.length
      · obtain ⟨_, _, hag, -, hsr⟩ := HF.g
        simp only [Value.agg.injEq, Array.mk.injEq, List.cons.injEq, and_true] at hag
        obtain ⟨rfl, rfl⟩ := hag
        obtain ⟨_, _, ee, -, -, -, -, hs⟩ := hsr
        simp only [Value.slice.injEq] at ee
        obtain ⟨rfl, -, rfl⟩ := ee
        obtain ⟨b, off, pa, pc, na, nc, rfl, hbl, hb, r0, r1, r2, hok, hp, hn⟩ := hs.rule hlt
        have HFF := Lib.hid HF
        have hkl : (k : Int) < (g.rules.length : Int) := by omega
        have hk0 : (0 : Int) ≤ (k : Int) := by omega
        have Hp := Lib.hid hp
        have Hn := Lib.hid hn
        clear hs hp hn HF
        by_cases he : g.rules[k].head = (a : Int)
        · have he' : (g.rules[k].head != (a : Int)) = false := by simp [he]
          have hst := Lib.hid (lessF_no hlt he)
          clear he
          go_wp2_with fail
          go_roundw
          case rel => exact ⟨k + 1, rs, hlt, by go_num, Lib.hid (hrs.out.trans hst.out.symm), HFF.out⟩
          case measure => simp [intOf]; omega
        · have he' : (g.rules[k].head != (a : Int)) = true := by simp [he]
          have hst := Lib.hid (lessF_yes hlt he)
          have hrl2 : rs.length ≤ 100 := by
            rw [hrs.out]
            have := lessF_len (a : Int) (g.rules.take k)
            rw [List.length_take] at this
            omega
          clear he
          go_wp2_with (at_builtin; refine wpList_app_rule (S := fun b => b < lo) (Sy := fun b => b < lo) (base := base) (y := g.rules[k]) rfl (.tmp 52) (.tmp 58) 22 rfl Try.underlying22 infoRule rfl HFF.out.less rfl Seq.way hok (Hp.out.at Seq.way) (Hn.out.at Seq.way) (fun b h _ => ⟨h, .inl (Nat.lt_of_lt_of_le h HFF.out.hlo)⟩) ?_ ?_ ?_ ?_ ?_ ?_)
          any_goals (first | omega | exact HFF.out.hbase | (go_simp; done))
          intro ao cap w7 hown7 hk7
          have HF7 := Lib.hid (HFF.out.app Seq.way hk7 hown7)
          clear hown7 hk7
          go_wp2_with fail
          go_roundw
          case rel => exact ⟨k + 1, _, hlt, by go_num, Lib.hid (by rw [hrs.out, hst.out]), HF7.out⟩
          case measure => simp [intOf]; omega
      · have hke : k = g.rules.length := by omega
        subst hke
        rw [List.take_length] at hrs
        have hlt' : ¬ ((g.rules.length : Int) < (g.rules.length : Int)) := by omega
        have HFF := Lib.hid HF
        clear HF hlt hk
        go_upto_region 11 with fail
        obtain ⟨w8, rfl⟩ : ∃ w8, w8 = wr := ⟨_, rfl⟩
        obtain ⟨P1, hP1⟩ : ∃ P1 : Prog, P1 = ⟨g.atoms, rulesL (g.rules ++ [⟨(a : Int), [], []⟩])⟩ := ⟨_, rfl⟩
        obtain ⟨P2, hP2⟩ : ∃ P2 : Prog, P2 = ⟨g.atoms, rulesL rs⟩ := ⟨_, rfl⟩
        have f1 : FineP P1 := by rw [hP1]; exact fine_more (a := (a : Int)) hfine (by omega) ⟨by omega, by omega⟩ (fun r hr => by simpa using hr) (by simp)
        have f2 : FineP P2 := by rw [hP2, hrs.out]; exact fine_more (a := (a : Int)) hfine (by omega) ⟨by omega, by omega⟩ (fun r hr => lessF_mem hr) (lessF_len _ _)
        have hlaw := Lib.hid (facts_law hfine (by omega) haa [] [])
        rw [← hrs.out, ← hP1, ← hP2] at hlaw
        have hlr : rs.length ≤ 100 := by
          rw [hrs.out]
          have := lessF_len (a : Int) g.rules
          omega
        have hla : (g.rules ++ [(⟨(a : Int), [], []⟩ : Rule)]).length ≤ 100 := by simp; omega
        have HP1 := Lib.hid hP1
        have HP2 := Lib.hid hP2
        clear hP1 hP2
        have HAll := Lib.hid HFF.out.all
        have HLess := Lib.hid (HFF.out.less.seq (by omega) (T := fun _ => True) fun _ _ _ => trivial)
        obtain ⟨_, _, hag, hat, -⟩ := HFF.out.g
        simp only [Value.agg.injEq, Array.mk.injEq, List.cons.injEq, and_true] at hag
        obtain ⟨rfl, -⟩ := hag
        have HAt := Lib.hid hat
        have hk8 : ∀ {W : World}, Below w8.heap.size w8 W → W.cell? ⟨B8, 0, none⟩ = some (.slice ga g.atoms.length gac) := fun hW => (rowTo HFF.out.r hW).cell (j := 0) (by simp)
        have Hk8 := fun {W : World} (hW : Below w8.heap.size w8 W) => Lib.hid (hk8 hW)
        clear hk8 hat Q7 Q8
        go_cut [13] (fun st wx => ∃ ta tc, st = .slice ta (truthL (reduceL P1 [])).length tc ∧ Seq intE (fun _ => True) wx (.slice ta (truthL (reduceL P1 [])).length tc) (truthL (reduceL P1 [])) ∧ Below w8.heap.size w8 wx)
        case first =>
          go_region_held3 (fun w' => w'.cell? ⟨B8, 0, none⟩ = some (.slice ga g.atoms.length gac))
            (first | exact (Hk8 Seq.way).out | go_keep)
            (first
              | (go_at_call 25; (with_reducible refine (RulesL_spec (HAll.out.at Seq.way) (by omega)).mono ?_); rintro e x1 ⟨vr, rfl, hx1, hq⟩; obtain ⟨ra1, rc1, rfl, -⟩ := id hq; have HX1 := below_step hx1 (Seq.way : Below w8.heap.size w8 _); have zx1 := HX1.size)
              | (go_at_call 17; refine (ReduceP_spec (progP ((HAt.out.at Seq.way)) (hq.at Seq.way) HP1.out) f1 (Seq.nil intE (fun _ => True) _)).mono ?_; rintro e x2 ⟨vp, rfl, hx2, hp2⟩; have HX2 := below_step hx2 (Seq.way : Below w8.heap.size w8 _); have zx2 := HX2.size)
              | (go_at_call 20; (with_reducible refine (TruthP_spec (hp2.at Seq.way) (reduceL_fine f1)).mono ?_); rintro e x3 ⟨vt, rfl, hx3, hp3⟩; have HX3 := below_step hx3 (Seq.way : Below w8.heap.size w8 _); have zx3 := HX3.size))
          all_goals go_wp2_with fail
          go_meet
          obtain ⟨ta, tc, rfl, -⟩ := id hp3
          exact ⟨ta, tc, rfl, hp3.mono (fun _ _ _ => trivial) fun _ _ _ => rfl, HX3⟩
        case rest =>
          obtain ⟨ta, tc, rfl, h13, hb9⟩ := hcut
          obtain ⟨w9, rfl⟩ : ∃ w9, w9 = wc := ⟨_, rfl⟩
          have z9 := hb9.size
          have HLess9 := Lib.hid (HLess.out.at hb9)
          have HAt9 := Lib.hid (HAt.out.at hb9)
          have H13 := Lib.hid h13
          have HB9 := Lib.hid hb9
          have Hk9 := fun {W : World} (hW : Below w9.heap.size w9 W) => Hk8 (hb9.trans (hW.mono z9))
          clear h13 HAll HLess HAt
          go_upto_region 12 with fail
          go_cut [14] (fun st wx => ∃ ta tc, st = .slice ta (truthL (reduceL P2 [])).length tc ∧ Seq intE (fun _ => True) wx (.slice ta (truthL (reduceL P2 [])).length tc) (truthL (reduceL P2 [])) ∧ Below w9.heap.size w9 wx)
          case first =>
            go_region_held3 (fun w' => w'.cell? ⟨B8, 0, none⟩ = some (.slice ga g.atoms.length gac))
              (first | exact (Hk9 Seq.way).out | go_keep)
              (first
                | (go_at_call 25; (with_reducible refine (RulesL_spec (HLess9.out.at Seq.way) (by omega)).mono ?_); rintro e x1 ⟨vr, rfl, hx1, hq⟩; obtain ⟨ra1, rc1, rfl, -⟩ := id hq; have HX1 := below_step hx1 (Seq.way : Below w9.heap.size w9 _); have zx1 := HX1.size)
                | (go_at_call 17; refine (ReduceP_spec (progP ((HAt9.out.at Seq.way)) (hq.at Seq.way) HP2.out) f2 (Seq.nil intE (fun _ => True) _)).mono ?_; rintro e x2 ⟨vp, rfl, hx2, hp2⟩; have HX2 := below_step hx2 (Seq.way : Below w9.heap.size w9 _); have zx2 := HX2.size)
                | (go_at_call 20; (with_reducible refine (TruthP_spec (hp2.at Seq.way) (reduceL_fine f2)).mono ?_); rintro e x3 ⟨vt, rfl, hx3, hp3⟩; have HX3 := below_step hx3 (Seq.way : Below w9.heap.size w9 _); have zx3 := HX3.size))
            all_goals go_wp2_with fail
            go_meet
            obtain ⟨ta, tc, rfl, -⟩ := id hp3
            exact ⟨ta, tc, rfl, hp3.mono (fun _ _ _ => trivial) fun _ _ _ => rfl, HX3⟩
          case rest =>
            obtain ⟨tb, td, rfl, h14, hb10⟩ := hcut
            obtain ⟨w10, rfl⟩ : ∃ w10, w10 = wc := ⟨_, rfl⟩
            have H13' := Lib.hid (H13.out.at hb10)
            have H14 := Lib.hid h14
            have HBw := Lib.hid (HB9.out.trans (hb10.mono z9))
            have HW := Lib.hid (HFF.out.bel.trans (HBw.out.mono HFF.out.bel.size))
            clear h14 hb10 H13
            obtain ⟨hl1, hl2, hl3⟩ := hlaw.out
            have hint := fun {W : World} (hW : Below w10.heap.size w10 W) => Lib.hid (ints_eq (H13'.out.at hW) (by rw [hl1]; exact H14.out.at hW))
            have hcell : ∃ bb off, ta = some ⟨bb, off, none⟩ ∧ bb < w10.heap.size ∧ w10.cell? ⟨bb, off + a, none⟩ = some (.int .i64 2) := by
              obtain ⟨_, _, ee, -, -, -, -, hs⟩ := H13'.out
              simp only [Value.slice.injEq] at ee
              obtain ⟨rfl, -, -⟩ := ee
              obtain ⟨hlt2, hval2⟩ := List.getElem?_eq_some_iff.1 hl3
              obtain ⟨bb, off, e, -, hlt, hc, -⟩ := hs.int hlt2
              rw [hval2] at hc
              exact ⟨bb, off, e, hlt, hc⟩
            obtain ⟨bb, off, rfl, hbb, hcc⟩ := hcell
            have hq8 := (Hk8 HBw.out).out
            have hqb : B8 < w10.heap.size := (rowTo HFF.out.r HBw.out).lt
            obtain ⟨N, hN⟩ : ∃ N, N = (truthL (reduceL P1 [])).length := ⟨_, rfl⟩
            have HN := Lib.hid hN
            rw [← hN] at hl2 ⊢
            have hint' := fun {W : World} (hW : Below w10.heap.size w10 W) => (by have h := (hint hW).out; rw [← hN] at h; exact h : Calls Try.prog 19 #[.slice (some ⟨bb, off, none⟩) N tc, .slice tb (truthL (reduceL P2 [])).length td] W (RetV (.bool true) W))
            clear hN hl1 hl3 hint hlaw
            have ha1 : (a : Int) < (N : Int) := by omega
            have ha0 : (0 : Int) ≤ (a : Int) := by omega
            have hNa : ((N : Int) == (g.atoms.length : Int)) = true := by simp [hl2]
            clear hl2
            go_wp2_with fail
            refine (hint' (Below.refl _ _)).mono ?_
            rintro e w11 ⟨rfl, hb11⟩
            have hc11 : w11.cell? ⟨bb, off + a, none⟩ = some (.int .i64 2) := (hb11.cell (p := ⟨bb, off + a, none⟩) hbb).trans hcc
            have hq11 : w11.cell? ⟨B8, 0, none⟩ = some (.slice ga g.atoms.length gac) := (hb11.cell (p := ⟨B8, 0, none⟩) hqb).trans hq8
            go_wp2_with fail
            refine bodyPost_ret (v := .bool true) (by simp [results, Try.results9, go_sem]) rfl ⟨rfl, HW.out.trans (hb11.mono HW.out.size)⟩
end Go.Proofs.Ytdbennmbbmoflaa
