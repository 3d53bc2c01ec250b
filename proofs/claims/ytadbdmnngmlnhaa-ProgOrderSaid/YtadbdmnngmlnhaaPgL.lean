/-
  Layer 7, the document: links (has handed in as a contract).
  Layer 7, the document: levels (its links handed in as a contract).
-/
import Derived.Test.YtadbdmnngmlnhaaPgI
import Derived.Deep.CutBlock
import Derived.Deep.DeepCutAuto
namespace Go.Proofs.Ytadbdmnngmlnhaa
section
open Go Go.RowKit

def hasL (tp : Prd) (neg : Bool) (b : Lit) : Bool := decide (prT b.t = tp) && (b.neg == neg)
def hasB (l : List Cls) (fr tp : Prd) (neg : Bool) : Bool := l.any fun c => decide (prT c.head = fr) && c.body.any (hasL tp neg)
/-- A link that is there, by places. -/
def InK (l : List Cls) (x : Lnk) : Prop := ∃ (h1 : x.fr < (predsL l).length) (h2 : x.2 < (predsL l).length), hasB l (predsL l)[x.fr] (predsL l)[x.2] x.neg = true
theorem inK_iff (l : List Cls) (x : Lnk) : x ∈ allK l ↔ InK l x := by
  have hs : Srt cmpP (predsL l) := setL_srt cmpP_ok _
  unfold allK InK hasB hasL
  constructor
  · intro hx
    obtain ⟨c, hc, hx⟩ := List.mem_flatMap.1 hx
    obtain ⟨b, hb, rfl⟩ := List.mem_map.1 hx
    have h1 : prT c.head ∈ predsL l := (mem_setL cmpP_ok).2 (List.mem_flatMap.2 ⟨c, hc, List.mem_cons_self⟩)
    have h2 : prT b.t ∈ predsL l := (mem_setL cmpP_ok).2 (List.mem_flatMap.2 ⟨c, hc, List.mem_cons_of_mem _ (List.mem_map.2 ⟨b, hb, rfl⟩)⟩)
    obtain ⟨e1, e2⟩ := lowC_mem cmpP_ok hs h1
    obtain ⟨e3, e4⟩ := lowC_mem cmpP_ok hs h2
    refine ⟨e1, e3, List.any_eq_true.2 ⟨c, hc, ?_⟩⟩
    simp only [Bool.and_eq_true, decide_eq_true_eq]
    exact ⟨e2.symm, List.any_eq_true.2 ⟨b, hb, by simp only [Bool.and_eq_true, decide_eq_true_eq]; exact ⟨e4.symm, by simp⟩⟩⟩
  · rintro ⟨h1, h2, h3⟩
    obtain ⟨c, hc, h4⟩ := List.any_eq_true.1 h3
    simp only [Bool.and_eq_true, decide_eq_true_eq] at h4
    obtain ⟨h4, h5⟩ := h4
    obtain ⟨b, hb, h6⟩ := List.any_eq_true.1 h5
    simp only [Bool.and_eq_true, decide_eq_true_eq] at h6
    obtain ⟨h6, h7⟩ := h6
    refine List.mem_flatMap.2 ⟨c, hc, List.mem_map.2 ⟨b, hb, ?_⟩⟩
    have e1 := lowC_at cmpP_ok hs h1
    have e2 := lowC_at cmpP_ok hs h2
    rw [h4, h6, e1, e2]
    cases x with
    | mk f t ng => simp at h7 ⊢; exact h7
theorem cmpK_lt {y x : Lnk} (h : y.fr < x.fr ∨ (y.fr = x.fr ∧ (y.2 < x.2 ∨ (y.2 = x.2 ∧ y.neg = false ∧ x.neg = true)))) : cmpK y x < 0 := by
  unfold cmpK
  rcases h with h | ⟨h, h2 | ⟨h2, h3, h4⟩⟩
  · have : cmpZ (y.fr : Int) x.fr < 0 := cmpZ_lt.2 (by omega)
    rw [if_pos (by omega)]; exact this
  · have e : cmpZ (y.fr : Int) x.fr = 0 := cmpZ_zero.2 (by omega)
    have : cmpZ (y.2 : Int) x.2 < 0 := cmpZ_lt.2 (by omega)
    rw [if_neg (by simp [e]), if_pos (by omega)]; exact this
  · have e : cmpZ (y.fr : Int) x.fr = 0 := cmpZ_zero.2 (by omega)
    have e2 : cmpZ (y.2 : Int) x.2 = 0 := cmpZ_zero.2 (by omega)
    rw [if_neg (by simp [e]), if_neg (by simp [e2]), h3, h4]; decide
theorem srt_snoc {α : Type} {c : α → α → Int} {l : List α} {x : α} (h : Srt c l) (hx : ∀ y ∈ l, c y x < 0) : Srt c (l ++ [x]) :=
  List.pairwise_append.2 ⟨h, List.pairwise_singleton _ _, fun a ha b hb => by rw [List.mem_singleton] at hb; subst hb; exact hx a ha⟩
/-- The links told so far: all from places below i, and from i to places below k; with z, the plain one from i to k too. -/
def OutK (l : List Cls) (i k : Nat) (z : Bool) (out : List Lnk) : Prop := Srt cmpK out ∧ ∀ x, x ∈ out ↔ InK l x ∧ (x.fr < i ∨ (x.fr = i ∧ (x.2 < k ∨ (x.2 = k ∧ z = true ∧ x.neg = false))))
theorem outK_zero (l : List Cls) : OutK l 0 0 false [] := ⟨List.Pairwise.nil, fun x => ⟨fun h => by simp at h, fun h => by rcases h.2 with h | ⟨h, h2 | h2⟩ <;> first | omega | simp at h2⟩⟩
theorem outK_row {l : List Cls} {i : Nat} {out : List Lnk} (h : OutK l i (predsL l).length false out) : OutK l (i + 1) 0 false out := ⟨h.1, fun x => by
  rw [h.2]
  constructor
  · rintro ⟨h1, h2⟩
    exact ⟨h1, .inl (by rcases h2 with h2 | ⟨h2, -⟩ <;> omega)⟩
  · rintro ⟨h1, h2⟩
    refine ⟨h1, ?_⟩
    obtain ⟨-, h3, -⟩ := h1
    rcases h2 with h2 | ⟨-, h2 | ⟨-, h2, -⟩⟩
    · by_cases e : x.fr = i
      · exact .inr ⟨e, .inl h3⟩
      · exact .inl (by omega)
    · omega
    · cases h2⟩
theorem outK_plain {l : List Cls} {i k : Nat} {out : List Lnk} (h : OutK l i k false out) (hi : i < (predsL l).length) (hk : k < (predsL l).length) :
    (hasB l (predsL l)[i] (predsL l)[k] false = true → OutK l i k true (out ++ [⟨i, k, false⟩])) ∧ (hasB l (predsL l)[i] (predsL l)[k] false = false → OutK l i k true out) := by
  constructor
  · intro hh
    refine ⟨srt_snoc h.1 fun y hy => ?_, fun x => ?_⟩
    · rcases ((h.2 y).1 hy).2 with h2 | ⟨h2, h3 | ⟨-, h3, -⟩⟩
      · exact cmpK_lt (.inl h2)
      · exact cmpK_lt (.inr ⟨h2, .inl h3⟩)
      · cases h3
    · rw [List.mem_append, List.mem_singleton, h.2]
      constructor
      · rintro (⟨h1, h2 | ⟨h2, h3 | ⟨-, h3, -⟩⟩⟩ | rfl)
        · exact ⟨h1, .inl h2⟩
        · exact ⟨h1, .inr ⟨h2, .inl h3⟩⟩
        · cases h3
        · exact ⟨⟨hi, hk, hh⟩, .inr ⟨rfl, .inr ⟨rfl, rfl, rfl⟩⟩⟩
      · rintro ⟨h1, h2 | ⟨h2, h3 | ⟨h3, -, h4⟩⟩⟩
        · exact .inl ⟨h1, .inl h2⟩
        · exact .inl ⟨h1, .inr ⟨h2, .inl h3⟩⟩
        · refine .inr ?_
          cases x; simp at h2 h3 h4 ⊢; exact ⟨h2, h3, h4⟩
  · intro hh
    refine ⟨h.1, fun x => ?_⟩
    rw [h.2]
    constructor
    · rintro ⟨h1, h2 | ⟨h2, h3 | ⟨-, h3, -⟩⟩⟩
      · exact ⟨h1, .inl h2⟩
      · exact ⟨h1, .inr ⟨h2, .inl h3⟩⟩
      · cases h3
    · rintro ⟨h1, h2 | ⟨h2, h3 | ⟨h3, -, h4⟩⟩⟩
      · exact ⟨h1, .inl h2⟩
      · exact ⟨h1, .inr ⟨h2, .inl h3⟩⟩
      · obtain ⟨g1, g2, g3⟩ := h1
        cases x; simp only at h2 h3 h4 g3; subst h2 h3 h4
        rw [hh] at g3; cases g3
theorem outK_neg {l : List Cls} {i k : Nat} {out : List Lnk} (h : OutK l i k true out) (hi : i < (predsL l).length) (hk : k < (predsL l).length) :
    (hasB l (predsL l)[i] (predsL l)[k] true = true → OutK l i (k + 1) false (out ++ [⟨i, k, true⟩])) ∧ (hasB l (predsL l)[i] (predsL l)[k] true = false → OutK l i (k + 1) false out) := by
  constructor
  · intro hh
    refine ⟨srt_snoc h.1 fun y hy => ?_, fun x => ?_⟩
    · rcases ((h.2 y).1 hy).2 with h2 | ⟨h2, h3 | ⟨h3, -, h4⟩⟩
      · exact cmpK_lt (.inl h2)
      · exact cmpK_lt (.inr ⟨h2, .inl h3⟩)
      · exact cmpK_lt (.inr ⟨h2, .inr ⟨h3, h4, rfl⟩⟩)
    · rw [List.mem_append, List.mem_singleton, h.2]
      constructor
      · rintro (⟨h1, h2 | ⟨h2, h3 | ⟨h3, -, -⟩⟩⟩ | rfl)
        · exact ⟨h1, .inl h2⟩
        · exact ⟨h1, .inr ⟨h2, .inl (by omega)⟩⟩
        · exact ⟨h1, .inr ⟨h2, .inl (by omega)⟩⟩
        · exact ⟨⟨hi, hk, hh⟩, .inr ⟨rfl, .inl (Nat.lt_succ_self _)⟩⟩
      · rintro ⟨h1, h2 | ⟨h2, h3 | ⟨-, h3, -⟩⟩⟩
        · exact .inl ⟨h1, .inl h2⟩
        · by_cases e : x.2 = k
          · cases hn : x.neg with
            | false => exact .inl ⟨h1, .inr ⟨h2, .inr ⟨e, rfl, rfl⟩⟩⟩
            | true =>
              refine .inr ?_
              cases x; simp at h2 e hn ⊢; exact ⟨h2, e, hn⟩
          · exact .inl ⟨h1, .inr ⟨h2, .inl (by omega)⟩⟩
        · cases h3
  · intro hh
    refine ⟨h.1, fun x => ?_⟩
    rw [h.2]
    constructor
    · rintro ⟨h1, h2 | ⟨h2, h3 | ⟨h3, -, -⟩⟩⟩
      · exact ⟨h1, .inl h2⟩
      · exact ⟨h1, .inr ⟨h2, .inl (by omega)⟩⟩
      · exact ⟨h1, .inr ⟨h2, .inl (by omega)⟩⟩
    · rintro ⟨h1, h2 | ⟨h2, h3 | ⟨-, h3, -⟩⟩⟩
      · exact ⟨h1, .inl h2⟩
      · by_cases e : x.2 = k
        · cases hn : x.neg with
          | false => exact ⟨h1, .inr ⟨h2, .inr ⟨e, rfl, rfl⟩⟩⟩
          | true =>
            obtain ⟨g1, g2, g3⟩ := h1
            cases x; simp only at h2 e hn g3; subst h2 e hn
            rw [hh] at g3; cases g3
        · exact ⟨h1, .inr ⟨h2, .inl (by omega)⟩⟩
      · cases h3
theorem outK_end {l : List Cls} {out : List Lnk} (h : OutK l (predsL l).length 0 false out) : out = linksL l := srt_ext cmpK_ok h.1 (setL_srt cmpK_ok _) fun x => by
  rw [h.2, show linksL l = setL cmpK (allK l) from rfl, mem_setL cmpK_ok, inK_iff]
  exact ⟨fun h => h.1, fun h => ⟨h, .inl h.1⟩⟩
set_option maxHeartbeats 6400000 in
set_option maxRecDepth 100000 in
theorem LinksR_spec {l : List Cls} (hHas : ∀ {S : Nat → Prop} {w : World} {v : Value} {fr tp : Prd} {neg : Bool}, Seq clsE S w v l → Calls Try.prog 62 #[v, .agg #[.string fr.name, .int .i64 fr.n], .agg #[.string tp.name, .int .i64 tp.n], .bool neg] w (RetV (.bool (hasB l fr tp neg)) w))
    {S : Nat → Prop} {w : World} {v : Value} (hl : Seq clsE S w v l) (hmay : ∀ c ∈ l, mayC c = true) (hlen : l.length ≤ 1000) :
    Calls Try.prog 27 #[v] w (Ret (fun r w' => Seq lnkE (fun b => w.heap.size ≤ b) w' r (linksL l)) w) := by
  have HL := Lib.hid hl
  have HMay := Lib.hid hmay
  have hpn : (predsL l).length ≤ 9000 := by have h1 := setL_le (c := cmpP) (allP l); have h2 := allP_len hmay; unfold predsL; omega
  obtain ⟨aa, ac, rfl, -⟩ := hl
  clear hmay
  go_enter Try.func27, Try.ntmps27
  go_wp2_with fail
  refine (PredsR_spec (HL.out.at Seq.way) HMay.out hlen).mono ?_
  rintro e w1 ⟨v1, rfl, hb1, hs1⟩
  obtain ⟨pa, pc, rfl⟩ := hs1.shape
  have HL1 := Lib.hid (HL.out.at hb1)
  have HB1 := Lib.hid hb1
  have HP := Lib.hid hs1
  have HE := Lib.hid (fun out => outK_end (l := l) (out := out))
  have HRow := Lib.hid (fun i out => outK_row (l := l) (i := i) (out := out))
  have HPl0 : ∀ Q, Q = predsL l → ∀ i k out, OutK l i k false out → ∀ (hi : i < Q.length) (hk : k < Q.length), (hasB l Q[i] Q[k] false = true → OutK l i k true (out ++ [⟨i, k, false⟩])) ∧ (hasB l Q[i] Q[k] false = false → OutK l i k true out) := by
    rintro _ rfl i k out h hi hk
    exact outK_plain h hi hk
  have HNg0 : ∀ Q, Q = predsL l → ∀ i k out, OutK l i k true out → ∀ (hi : i < Q.length) (hk : k < Q.length), (hasB l Q[i] Q[k] true = true → OutK l i (k + 1) false (out ++ [⟨i, k, true⟩])) ∧ (hasB l Q[i] Q[k] true = false → OutK l i (k + 1) false out) := by
    rintro _ rfl i k out h hi hk
    exact outK_neg h hi hk
  obtain ⟨P, hP⟩ : ∃ P, P = predsL l := ⟨_, rfl⟩
  have HPl := Lib.hid (HPl0 P hP)
  have HNg := Lib.hid (HNg0 P hP)
  clear HPl0 HNg0
  simp only [← hP] at HP hpn HE HRow ⊢
  have hfL := fun {w' : World} (h : Below w1.heap.size w1 w') => Lib.hid (HL1.out.at h)
  have hfP := fun {w' : World} (h : Below w1.heap.size w1 w') => Lib.hid (HP.out.at h)
  have hz1 := hb1.size
  clear hs1 hb1 hP HL
  go_wp2_with fail
  go_loopw [4, 5] (fun o i wr => ∃ (k : Nat) (out : List Lnk), k ≤ P.length ∧ i = .int .i64 k ∧ out.length ≤ 20000 * k ∧ Hid (OutK l k 0 false out) ∧ Hid (Own lnkE (fun _ => True) w1.heap.size 57 wr o out) ∧ Hid (Below w1.heap.size w1 wr)) (fun _ i _ => P.length - (intOf i).toNat)
  case atStart => exact ⟨0, [], Nat.zero_le _, rfl, by simp, Lib.hid (outK_zero l), Lib.hid (Own.lit0 rfl (Nat.le_refl _) rfl), Lib.hid Seq.way⟩
  case round =>
    obtain ⟨i, out, hi, rfl, hol, hOK, hO, hbr⟩ := hrel
    by_cases hil : i < P.length
    · have hiI : (i : Int) < (P.length : Int) := by omega
      have hzr := hbr.out.size
      go_wp2_with fail
      go_loopw [4, 6] (fun o j wz => ∃ (k : Nat) (out : List Lnk), k ≤ P.length ∧ j = .int .i64 k ∧ out.length ≤ 20000 * i + 2 * k ∧ Hid (OutK l i k false out) ∧ Hid (Own lnkE (fun _ => True) w1.heap.size 57 wz o out) ∧ Hid (Below w1.heap.size w1 wz)) (fun _ j _ => P.length - (intOf j).toNat)
      case atStart => exact ⟨0, out, Nat.zero_le _, rfl, by omega, hOK, hO, hbr⟩
      case round =>
        clear hOK hO hbr hol hzr
        obtain ⟨k, out, hk, rfl, hol, hOK, hO, hbr⟩ := hrel
        have hzr := hbr.out.size
        by_cases hkl : k < P.length
        · have hkI : (k : Int) < (P.length : Int) := by omega
          have hk0 : (0 : Int) ≤ (k : Int) := by omega
          have hi0 : (0 : Int) ≤ (i : Int) := by omega
          obtain ⟨hp1, hp2⟩ := HPl.out i k out hOK.out hil hkl
          have hn0 := fun out' (h : OutK l i k true out') => HNg.out i k out' h hil hkl
          have Hp1 := Lib.hid hp1
          have Hp2 := Lib.hid hp2
          have Hn0 := Lib.hid hn0
          obtain ⟨pi, hpi⟩ : ∃ p, p = P[i] := ⟨_, rfl⟩
          obtain ⟨pk, hpk⟩ : ∃ p, p = P[k] := ⟨_, rfl⟩
          have Kc := fun {W : World} (h : Below w1.heap.size w1 W) => Lib.hid (show ∃ b1 o1, pa = some ⟨b1, o1, none⟩ ∧ W.cell? ⟨b1, o1 + i * 2, none⟩ = some (.string pi.name) ∧ W.cell? ⟨b1, o1 + i * 2 + 1, none⟩ = some (.int .i64 pi.n) ∧ W.cell? ⟨b1, o1 + k * 2, none⟩ = some (.string pk.name) ∧ W.cell? ⟨b1, o1 + k * 2 + 1, none⟩ = some (.int .i64 pk.n) from by
            obtain ⟨_, _, ee, -, -, -, -, x5⟩ := (hfP h).out
            simp only [Value.slice.injEq, true_and] at ee
            obtain ⟨rfl, rfl⟩ := ee
            obtain ⟨b1, o1, e1, -, -, c0, c1, -⟩ := x5.prd hil
            obtain ⟨b2, o2, e2, -, -, d0, d1, -⟩ := x5.prd hkl
            subst e1
            simp only [Option.some.injEq, Addr.mk.injEq, and_true] at e2
            obtain ⟨rfl, rfl⟩ := e2
            rw [← hpi] at c0 c1
            rw [← hpk] at d0 d1
            exact ⟨b1, o1, rfl, c0, c1, d0, d1⟩)
          simp only [← hpi, ← hpk] at Hp1 Hp2 Hn0
          obtain ⟨b1, o1, hpa, c0, c1, d0, d1⟩ := (Kc hbr.out).out
          subst hpa
          clear hp1 hp2 hn0 hpi hpk
          go_wp2_with fail
          go_still_tail 9, (by kernel_rfl)
          go_wp2_with fail
          refine (hHas (fr := pi) (tp := pk) (neg := false) ((hfL hbr.out).out.at Seq.way)).mono ?_
          rintro e y1 ⟨rfl, hb1⟩
          replace hb1 := below_step hb1 (Seq.way : Below wr.heap.size wr _)
          have HO1 := Lib.hid (hO.out.move hb1)
          have Hb1 := Lib.hid (below_step hb1 hbr.out)
          clear hb1 c0 c1 d0 d1
          obtain ⟨hb, hhb⟩ : ∃ b, b = hasB l pi pk false := ⟨_, rfl⟩
          rw [← hhb] at Hp1 Hp2 ⊢
          clear hhb
          go_upto_if 31 with fail
          go_cut [4] (fun o wx => ∃ out', out'.length ≤ 20000 * i + 2 * k + 1 ∧ Hid (OutK l i k true out') ∧ Hid (Own lnkE (fun _ => True) w1.heap.size 57 wx o out') ∧ Hid (Below w1.heap.size w1 wx))
          case first =>
            have hzy := Hb1.out.size
            cases hb with
            | true =>
              have hK := Lib.hid (Hp1.out rfl)
              go_wp2_with (at_builtin; (refine wpList_app_lnk (wm := y1) (y := ⟨i, k, false⟩) rfl _ _ 41 rfl Try.underlying41 infoLnk rfl HO1.out rfl Seq.way (by show i ≤ 1000000; omega) (by show k ≤ 1000000; omega) ((Row.new _ [_, _, _] _ rfl).cell (j := 0) (by simp)) ((Row.new _ [_, _, _] _ rfl).cell (j := 1) (by simp)) ((Row.new _ [_, _, _] _ rfl).cell (j := 2) (by simp)) (by omega) hzy ?_))
              intro ao cap w5 hown5 hk5
              have H5 := Lib.hid hown5
              have K5 := Lib.hid (Hb1.out.trans (Below.trans (Below.mono (Seq.way : Below y1.heap.size y1 _) hzy) hk5.below))
              clear hown5 hk5
              go_wp2_with fail
              go_meet
              exact ⟨out ++ [⟨i, k, false⟩], by simp; omega, hK, Lib.hid (by simpa using H5.out), K5⟩
            | false =>
              have hK := Lib.hid (Hp2.out rfl)
              go_wp2_with fail
              go_meet
              exact ⟨out, by omega, hK, HO1, Hb1⟩
          case rest =>
            clear hOK hO Hp1 Hp2 HO1 Hb1 hbr hzr
            obtain ⟨out', hol', hOK, hO, hbr⟩ := hcut
            have hzr := hbr.out.size
            have Hn1 := Lib.hid (Hn0.out out' hOK.out).1
            have Hn2 := Lib.hid (Hn0.out out' hOK.out).2
            obtain ⟨b1', o1', hpa, c0, c1, d0, d1⟩ := (Kc hbr.out).out
            simp only [Option.some.injEq, Addr.mk.injEq, and_true] at hpa
            obtain ⟨rfl, rfl⟩ := hpa
            go_wp2_with fail
            go_still_tail 9, (by kernel_rfl)
            go_wp2_with fail
            refine (hHas (fr := pi) (tp := pk) (neg := true) ((hfL hbr.out).out.at Seq.way)).mono ?_
            rintro e y2 ⟨rfl, hb1⟩
            replace hb1 := below_step hb1 (Seq.way : Below wc.heap.size wc _)
            have HO1 := Lib.hid (hO.out.move hb1)
            have Hb1 := Lib.hid (below_step hb1 hbr.out)
            clear hb1 c0 c1 d0 d1
            obtain ⟨hb, hhb⟩ : ∃ b, b = hasB l pi pk true := ⟨_, rfl⟩
            rw [← hhb] at Hn1 Hn2 ⊢
            clear hhb
            have hzy := Hb1.out.size
            cases hb with
            | true =>
              have hK := Lib.hid (Hn1.out rfl)
              go_wp2_with (at_builtin; (refine wpList_app_lnk (wm := y2) (y := ⟨i, k, true⟩) rfl _ _ 41 rfl Try.underlying41 infoLnk rfl HO1.out rfl Seq.way (by show i ≤ 1000000; omega) (by show k ≤ 1000000; omega) ((Row.new _ [_, _, _] _ rfl).cell (j := 0) (by simp)) ((Row.new _ [_, _, _] _ rfl).cell (j := 1) (by simp)) ((Row.new _ [_, _, _] _ rfl).cell (j := 2) (by simp)) (by omega) hzy ?_))
              intro ao cap w5 hown5 hk5
              have H5 := Lib.hid hown5
              have K5 := Lib.hid (Hb1.out.trans (Below.trans (Below.mono (Seq.way : Below y2.heap.size y2 _) hzy) hk5.below))
              clear hown5 hk5
              go_wp2_with fail
              go_roundw
              case rel => exact ⟨k + 1, out' ++ [⟨i, k, true⟩], hkl, by go_num, by simp; omega, hK, Lib.hid (by simpa using H5.out), K5⟩
              case measure => simp [intOf]; omega
            | false =>
              have hK := Lib.hid (Hn2.out rfl)
              go_wp2_with fail
              go_roundw
              case rel => exact ⟨k + 1, out', hkl, by go_num, by omega, hK, HO1, Hb1⟩
              case measure => simp [intOf]; omega
        · have hkn := Lib.hid (show k = P.length by omega)
          have hkI : ¬ (k : Int) < (P.length : Int) := by omega
          have hK := Lib.hid (HRow.out i out (by rw [← hkn.out]; exact hOK.out))
          clear hkl
          go_wp2_with fail
          go_roundw
          case rel => exact ⟨i + 1, out, hil, by go_num, by omega, hK, Lib.hid (hO.out.move Seq.way), Lib.hid (below_step Seq.way hbr.out)⟩
          case measure => simp [intOf]; omega
    · have hin := Lib.hid (show i = P.length by omega)
      have hiI : ¬ (i : Int) < (P.length : Int) := by omega
      have hfin := Lib.hid (HE.out out (by rw [← hin.out]; exact hOK.out))
      have hlen2 : out.length ≤ 140737488355328 := by omega
      clear hil
      go_wp2_with fail
      go_ret
      refine ⟨_, rfl, below_step hbr.out HB1.out, ?_⟩
      rw [← hfin.out]
      exact (own_lnkS (T := fun _ => False) hO.out).seq hlen2 fun b _ h => h.elim False.elim fun h => Nat.le_trans hz1 h
end
section
open Go Go.RowKit

/-- Levels and whether there are any. -/
def RetT (K : List Lnk) (n : Nat) (w : World) (e : Ending) (w' : World) : Prop :=
  ∃ (r : Value) (is : Bool) (m : List Nat), e = .returned (.tuple #[r, .bool is]) ∧ Below w.heap.size w w' ∧ LevT K n is m ∧ Seq intE (fun b => w.heap.size ≤ b) w' r (natsI m)

theorem rngK_links {l : List Cls} : RngK (linksL l) (predsL l).length := fun k hk => by
  rw [show linksL l = setL cmpK (allK l) from rfl, mem_setL cmpK_ok] at hk
  unfold allK at hk
  obtain ⟨c, hc, hk⟩ := List.mem_flatMap.1 hk
  obtain ⟨b, hb, rfl⟩ := List.mem_map.1 hk
  have h1 : prT c.head ∈ predsL l := (mem_setL cmpP_ok).2 (List.mem_flatMap.2 ⟨c, hc, List.mem_cons_self⟩)
  have h2 : prT b.t ∈ predsL l := (mem_setL cmpP_ok).2 (List.mem_flatMap.2 ⟨c, hc, List.mem_cons_of_mem _ (List.mem_map.2 ⟨b, hb, rfl⟩)⟩)
  exact ⟨(lowC_mem cmpP_ok (setL_srt cmpP_ok _) h1).1, (lowC_mem cmpP_ok (setL_srt cmpP_ok _) h2).1⟩
theorem natsI_zeros (n : Nat) : natsI (List.replicate n 0) = List.replicate n (0 : Int) := by unfold natsI; rw [List.map_replicate]; rfl
/-- So far, all small. -/
def LevS (K : List Lnk) (n k : Nat) (m : List Nat) : Prop := LevR K n m ∧ (∀ i, lv m i ≤ n) ∧ k ≤ sumL m
theorem levS_zero (K : List Lnk) (n : Nat) : LevS K n 0 (List.replicate n 0) := ⟨levR_zero K n, fun i => by unfold lv; simp [List.getElem?_replicate]; split <;> simp, Nat.zero_le _⟩
theorem levS_le {K : List Lnk} {n k : Nat} {m : List Nat} (h : LevS K n k m) : k ≤ n * n := by
  have := sumL_bound (m := m) (n := n) fun i _ => h.2.1 i
  rw [h.1.1] at this
  have := h.2.2
  omega
theorem levS_raise {K : List Lnk} {n k : Nat} {m : List Nat} (hK : RngK K n) (h : LevS K n k m) : LevR K n (raiseD K m) ∧ (raiseD K m = m → LevM K n m) ∧ (raiseD K m ≠ m → k + 1 ≤ sumL (raiseD K m)) := by
  obtain ⟨h1, h2, h3, h4⟩ := raiseD_all hK h.1.1
  refine ⟨⟨h1, h3 h.1.2⟩, fun e => levR_sol h.1 (h4.1 e), fun e => ?_⟩
  have := (sumL_le (m := m) (x := raiseD K m) (by rw [h1, h.1.1]) h2).2 fun e2 => e e2.symm
  have := h.2.2
  omega

set_option maxHeartbeats 6400000 in
set_option maxRecDepth 100000 in
theorem LevelsR_spec {S : Nat → Prop} {w : World} {v : Value} {l : List Cls} (hLk : ∀ {w : World} {v : Value}, Seq clsE S w v l → Calls Try.prog 27 #[v] w (Ret (fun r w' => Seq lnkE (fun b => w.heap.size ≤ b) w' r (linksL l)) w)) (hl : Seq clsE S w v l) (hmay : ∀ c ∈ l, mayC c = true) (hlen : l.length ≤ 1000) :
    Calls Try.prog 19 #[v] w (RetT (linksL l) (predsL l).length w) := by
  have HL := Lib.hid hl
  have HMay := Lib.hid hmay
  have hpn : (predsL l).length ≤ 9000 := by have h1 := setL_le (c := cmpP) (allP l); have h2 := allP_len hmay; unfold predsL; omega
  have Hr := Lib.hid (rngK_links (l := l))
  obtain ⟨aa, ac, rfl, -⟩ := hl
  clear hmay
  go_enter Try.func19, Try.ntmps19
  go_wp2_with fail
  refine (PredsR_spec (HL.out.at Seq.way) HMay.out hlen).mono ?_
  rintro e w1 ⟨v1, rfl, hb1, hs1⟩
  obtain ⟨pa, pc, rfl⟩ := hs1.shape
  have HL1 := Lib.hid (HL.out.at hb1)
  have HB1 := Lib.hid hb1
  obtain ⟨n, hn⟩ : ∃ n, n = (predsL l).length := ⟨_, rfl⟩
  rw [← hn] at hpn Hr ⊢
  have Hne := Lib.hid hn
  clear hs1 hb1 hn
  go_wp2_with fail
  refine (hLk (HL1.out.at Seq.way)).mono ?_
  rintro e w2 ⟨v2, rfl, hb2, hs2⟩
  obtain ⟨ka, kc, rfl⟩ := hs2.shape
  replace hb2 := below_step hb2 (Seq.way : Below w1.heap.size w1 _)
  have HK := Lib.hid hs2
  have HB2 := Lib.hid (below_step hb2 HB1.out)
  obtain ⟨K, hK⟩ : ∃ K, K = linksL l := ⟨_, rfl⟩
  rw [← hK] at HK Hr ⊢
  have HKe := Lib.hid hK
  clear hs2 hb2 hK HL HL1 hLk
  have hn0 : (0 : Int) ≤ (n : Int) := by omega
  have hnm : n ≤ 140737488355328 := by omega
  obtain ⟨N2, hN2⟩ : ∃ N2 : Nat, N2 = n * n := ⟨_, rfl⟩
  have hmul : (n : Int) * (n : Int) = (N2 : Int) := by rw [hN2]; simp
  have hN2b : N2 ≤ 81000000 := by rw [hN2]; exact Nat.le_trans (Nat.mul_le_mul hpn hpn) (by decide)
  have HN2 := Lib.hid hN2
  clear hN2
  have hfK := fun {w' : World} (h : Below w2.heap.size w2 w') => Lib.hid (HK.out.at h)
  have hmk := run_make_row' (P := Try.prog) 33 3 (.int .i64 0) 8 Try.underlying33 infoInt rfl .i64 .i64 n (by omega) (by omega)
  go_wp2_with fail
  clear hmk
  go_loopw [6, 7] (fun o i wr => ∃ (k : Nat) (m : List Nat), i = .int .i64 k ∧ k ≤ N2 ∧ Hid (LevS K n k m) ∧ Hid (Seq intE (fun b => w.heap.size ≤ b) wr o (natsI m)) ∧ Hid (Below w2.heap.size w2 wr)) (fun _ i _ => N2 + 1 - (intOf i).toNat)
  case atStart => exact ⟨0, List.replicate n 0, rfl, Nat.zero_le _, Lib.hid (levS_zero K n), Lib.hid (by rw [natsI_zeros]; exact (RowI.made w2 n 3 rfl).seq (by simp) (Nat.le_refl _) (by unfold maxLen; omega) (by simp; omega) HB2.out.size (fun x hx => by rw [List.eq_of_mem_replicate hx]; exact ⟨by decide, by decide⟩)), Lib.hid Seq.way⟩
  case round =>
    obtain ⟨k, m, rfl, hkN, hS, hO, hbr⟩ := hrel
    have hzr := hbr.out.size
    obtain ⟨oa, oc, rfl⟩ := hO.out.shape
    have hml : (natsI m).length = n := by rw [natsI_len]; exact hS.out.1.1
    obtain ⟨h1, h2, h3⟩ := levS_raise Hr.out hS.out
    have HR1 := Lib.hid h1
    have HR2 := Lib.hid h2
    have HR3 := Lib.hid h3
    have hmlN := Lib.hid hml
    rw [hml] at hO ⊢
    have HKr := Lib.hid (hfK hbr.out).out
    have hc1 : (k : Int) ≤ (N2 : Int) + (n : Int) := by omega
    have hOm := Lib.hid (show Seq intE (fun b => w.heap.size ≤ b) wr (.slice oa n oc) (natsI m) from hO.out)
    clear h1 h2 h3 hml hO
    go_wp2_with fail
    refine (RaiseR_spec (hOm.out.at Seq.way) (HKr.out.at Seq.way) Hr.out hS.out.1.1 (by omega) (B := n) (by omega) hS.out.2.1).mono ?_
    rintro e y1 ⟨v1, rfl, hb1, hs1⟩
    replace hb1 := below_step hb1 (Seq.way : Below wr.heap.size wr _)
    obtain ⟨R, hR⟩ : ∃ R, R = raiseD K m := ⟨_, rfl⟩
    rw [← hR] at hs1 HR1 HR2 HR3
    have hwz : w.heap.size ≤ wr.heap.size := Nat.le_trans HB2.out.size hzr
    have HRs := Lib.hid (hs1.mono (T := fun b => w.heap.size ≤ b) (fun b h _ => Nat.le_trans hwz (by simpa using h)) fun _ _ _ => rfl)
    obtain ⟨ra, rc, rfl⟩ := hs1.shape
    have hrl : (natsI R).length = n := by rw [natsI_len]; exact HR1.out.1
    rw [hrl] at HRs ⊢
    have hrlN := Lib.hid hrl
    have HOy := Lib.hid (hOm.out.at hb1)
    have Hb1 := Lib.hid (below_step hb1 hbr.out)
    clear hs1 hb1 hR hrl
    go_wp2_with fail
    refine (IntsR_spec (HRs.out.at Seq.way) (HOy.out.at Seq.way)).mono ?_
    rintro e y2 ⟨rfl, hq⟩
    have hb2 := below_step hq.belowS (Seq.way : Below y1.heap.size y1 _)
    have HRz := Lib.hid (HRs.out.at hb2)
    have HOz := Lib.hid (HOy.out.at hb2)
    have Hb2 := Lib.hid (below_step hb2 Hb1.out)
    clear hq hb2 HRs HOy hOm
    by_cases he : R = m
    · have hd : decide (natsI R = natsI m) = true := decide_eq_true (by rw [he])
      rw [hd]
      have hL := Lib.hid (HR2.out he)
      clear he hd
      go_wp2_with fail
      go_ret2
      exact ⟨_, true, m, rfl, below_step Hb2.out HB2.out, .inl ⟨rfl, by rw [← HKe.out, ← Hne.out]; exact hL.out⟩, HOz.out⟩
    · have hd : decide (natsI R = natsI m) = false := decide_eq_false fun e => he (natsI_inj e)
      rw [hd]
      have hsum := HR3.out he
      clear he hd
      have hfR := fun {w' : World} (h : Below y2.heap.size y2 w') => Lib.hid (HRz.out.at h)
      go_wp2_with fail
      go_loopw [9] (fun i wz => ∃ j : Nat, j ≤ n ∧ i = .int .i64 j ∧ Hid (∀ i, i < j → lv R i ≤ n) ∧ Hid (Below y2.heap.size y2 wz)) (fun i _ => n - (intOf i).toNat)
      case atStart => exact ⟨0, Nat.zero_le _, rfl, Lib.hid (fun i h => by omega), Lib.hid Seq.way⟩
      case round =>
        obtain ⟨j, hj, rfl, hA, hbz⟩ := hrel
        by_cases hjl : j < n
        · obtain ⟨_, _, ee, -, -, -, -, x5⟩ := (hfR hbz.out).out
          simp only [Value.slice.injEq] at ee
          obtain ⟨rfl, -, rfl⟩ := ee
          obtain ⟨b1, o1, rfl, -, l1, c0, -⟩ := x5.int (k := j) (by rw [hrlN.out]; exact hjl)
          rw [natsI_lv (by rw [HR1.out.1]; exact hjl)] at c0
          have hhi := Lib.hid (fun h => levR_high Hr.out HR1.out (i := j) hjl h)
          have hsu := Lib.hid (show lv R j ≤ n → ∀ i, i < j + 1 → lv R i ≤ n from fun h i hi => by
            by_cases e : i = j
            · rw [e]; exact h
            · exact hA.out i (by omega))
          obtain ⟨q, hq⟩ : ∃ q, q = lv R j := ⟨_, rfl⟩
          rw [← hq] at c0 hhi hsu
          have hjI : (j : Int) < (n : Int) := by omega
          have hj0 : (0 : Int) ≤ (j : Int) := by omega
          clear hq x5
          by_cases hqn : n < q
          · have hr := Lib.hid (hhi.out hqn)
            have hqI : (n : Int) < (q : Int) := by omega
            clear hhi hsu hqn
            go_wp2_with fail
            go_ret2
            exact ⟨_, false, [], rfl, below_step (below_step hbz.out Hb2.out) HB2.out, .inr ⟨rfl, by rw [← HKe.out]; exact hr.out, rfl⟩, Seq.nil _ _ _⟩
          · have hs' := Lib.hid (hsu.out (by omega))
            have hqI : ¬ (n : Int) < (q : Int) := by omega
            clear hhi hsu hqn
            go_wp2_with fail
            go_roundw
            case rel => exact ⟨j + 1, hjl, by go_num, hs', Lib.hid (below_step Seq.way hbz.out)⟩
            case measure => simp [intOf]; omega
        · have hall : ∀ i, lv R i ≤ n := fun i => by
            by_cases hi : i < n
            · exact hA.out i (by omega)
            · have : lv R i = 0 := by unfold lv; rw [List.getD_eq_getElem?_getD, List.getElem?_eq_none (by rw [HR1.out.1]; omega)]; rfl
              omega
          have HS := Lib.hid (⟨HR1.out, hall, hsum⟩ : LevS K n (k + 1) R)
          have hk1 : k + 1 ≤ N2 := by rw [HN2.out]; exact levS_le HS.out
          have hjn := Lib.hid (show j = n by omega)
          have hjI : ¬ (j : Int) < (n : Int) := by omega
          have HRf := (hfR hbz.out)
          have Hbf := Lib.hid (below_step hbz.out Hb2.out)
          clear hall hsum hjl
          go_wp2_with fail
          go_roundw
          case rel => exact ⟨k + 1, R, by go_num, hk1, HS, Lib.hid (HRf.out.at Seq.way), Lib.hid (below_step Seq.way Hbf.out)⟩
          case measure => simp [intOf]; omega
end
end Go.Proofs.Ytadbdmnngmlnhaa
