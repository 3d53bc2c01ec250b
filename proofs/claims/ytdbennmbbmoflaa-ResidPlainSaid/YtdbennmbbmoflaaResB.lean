/-
  Layer 18's reference: facts, rules, what is gone of a rule, what follows without Neg.
-/
import Derived.Test.YtdbennmbbmoflaaResA
import Derived.StillTailTactics
namespace Go.Proofs.Ytdbennmbbmoflaa
open Go Go.RowKit

/-! ### fact -/
def factB (g : Prog) (a : Int) : Bool := g.rules.any fun r => r.head == a && r.pos.length == 0 && r.neg.length == 0

set_option maxHeartbeats 800000 in
theorem fact_spec {S : Nat → Prop} {w : World} {v : Value} {g : Prog} {a : Int} (hg : ProgV S w v g) :
    Calls Try.prog 46 #[v, .int .i64 a] w (RetV (.bool (factB g a)) w) := by
  obtain ⟨va, vr, rfl, hga, ⟨ra, rc, rfl, hrc, hrm, hrl, hrn, hr⟩⟩ := hg
  obtain ⟨rs, hrs⟩ : ∃ rs, rs = g.rules := ⟨_, rfl⟩
  have hf := Lib.hid (show factB g a = rs.any (fun r => r.head == a && r.pos.length == 0 && r.neg.length == 0) by rw [hrs]; rfl)
  rw [← hrs] at hrl hr hrc ⊢
  clear hrs hga
  go_enter Try.func46, Try.ntmps46
  go_wp2
  go_loop [5] (fun i => ∃ k : Nat, k ≤ rs.length ∧ i = .int .i64 k ∧ Hid (∀ r ∈ rs.take k, (r.head == a && r.pos.length == 0 && r.neg.length == 0) = false)) (fun i => rs.length - (intOf i).toNat)
  case atStart => exact ⟨0, Nat.zero_le _, rfl, Lib.hid (by simp)⟩
  case round =>
    obtain ⟨k, hk, rfl, hno⟩ := hrel
    have hstep : ∀ (hlt : k < rs.length), (rs[k].head == a && rs[k].pos.length == 0 && rs[k].neg.length == 0) = false → Hid (∀ r ∈ rs.take (k + 1), (r.head == a && r.pos.length == 0 && r.neg.length == 0) = false) := by
      intro hlt h r hr
      rw [List.take_succ_eq_append_getElem hlt] at hr
      rcases List.mem_append.1 hr with h1 | h1
      · exact hno.out r h1
      · simp at h1; subst h1; exact h
    by_cases hlt : k < rs.length
    · obtain ⟨b, off, pa, pc, na, nc, rfl, hS, hb, h0, h1, h2, -, -, -⟩ := hr.rule hlt
      clear hr
      by_cases he : rs[k].head = a
      · by_cases hp : rs[k].pos.length = 0
        · by_cases hn : rs[k].neg.length = 0
          · have hres := Lib.hid (show rs.any (fun r => r.head == a && r.pos.length == 0 && r.neg.length == 0) = true by
              rw [List.any_eq_true]; exact ⟨rs[k], List.getElem_mem hlt, by simp [he, hp, hn]⟩)
            clear hstep
            go_wp2
            go_ret
            exact ⟨ret_bool (by rw [hf.out, hres.out]), Seq.way⟩
          · have hst := hstep hlt (by simp [he, hp, hn])
            clear hstep
            go_wp2
            go_round
            case rel => exact ⟨k + 1, hlt, by go_num, hst⟩
            case measure => simp [intOf]; omega
        · have hst := hstep hlt (by simp [he, hp])
          clear hstep
          go_wp2
          go_round
          case rel => exact ⟨k + 1, hlt, by go_num, hst⟩
          case measure => simp [intOf]; omega
      · have hst := hstep hlt (by simp [he])
        clear hstep
        go_wp2
        go_round
        case rel => exact ⟨k + 1, hlt, by go_num, hst⟩
        case measure => simp [intOf]; omega
    · obtain rfl : k = rs.length := by omega
      rw [List.take_length] at hno
      have hres := Lib.hid (show rs.any (fun r => r.head == a && r.pos.length == 0 && r.neg.length == 0) = false by
        rw [List.any_eq_false]; intro r hr; rw [hno.out r hr]; simp)
      clear hstep
      go_wp2
      go_ret
      exact ⟨ret_bool (by rw [hf.out, hres.out]), Seq.way⟩

/-! ### Of, rules -/
/-- The places of the rules of an atom. -/
def ofL (at_ : Int) (l : List Rule) : List Int := ((l.zipIdx).filter (fun p => p.1.head == at_)).map (fun p => (p.2 : Int))

theorem ofL_snoc (at_ : Int) (l : List Rule) (k : Nat) (hk : k < l.length) : ofL at_ (l.take (k+1)) = ofL at_ (l.take k) ++ (if l[k].head = at_ then [(k : Int)] else []) := by
  unfold ofL
  rw [List.take_succ_eq_append_getElem hk, List.zipIdx_append, List.filter_append, List.map_append]
  congr 1
  by_cases h : l[k].head = at_ <;> simp [h, Nat.min_eq_left (Nat.le_of_lt hk)]

theorem ofL_len (at_ : Int) (l : List Rule) : (ofL at_ l).length ≤ l.length := by
  unfold ofL
  have := List.length_filter_le (fun p : Rule × Nat => p.1.head == at_) l.zipIdx
  simpa using this

set_option maxHeartbeats 800000 in
theorem Of16_spec {S : Nat → Prop} {w : World} {v : Value} {g : Prog} {at_ : Int} (hg : ProgV S w v g) (hl : g.rules.length ≤ 1000000000) :
    Calls Try.prog 69 #[v, .int .i64 at_] w (Ret (fun r w' => Seq intE (Fr S w) w' r (ofL at_ g.rules)) w) := by
  obtain ⟨a, r, rfl, hga, ⟨ra, rc, rfl, hrc, hrm, hrl, hrn, hr⟩⟩ := hg
  obtain ⟨rs, hrs⟩ : ∃ rs, rs = g.rules := ⟨_, rfl⟩
  rw [← hrs] at hl hrl hr hrc ⊢
  clear hrs hga
  go_enter Try.func69, Try.ntmps69
  go_wp2
  go_loopw [5, 6] (fun o i wr => ∃ k : Nat, k ≤ rs.length ∧ i = .int .i64 k ∧ Own intE S (w.heap.size+1) 3 wr o (ofL at_ (rs.take k)) ∧ Below (w.heap.size+1) (w.alloc (Obj.cells #[a, Value.slice ra rs.length rc] 30)) wr) (fun _ i _ => rs.length - (intOf i).toNat)
  case atStart =>
    refine ⟨0, Nat.zero_le _, rfl, Own.lit0 (by simp) (Nat.le_refl _) rfl, Seq.way⟩
  case round =>
    obtain ⟨k, hk, rfl, hown, hbel⟩ := hrel
    have hb0 : Below w.heap.size w wr := ((Below.refl _ w).alloc (Nat.le_refl _) _).trans (hbel.mono (by omega))
    have hsz : w.heap.size + 1 ≤ wr.heap.size := by simpa using hbel.size
    have hlen := ofL_len at_ (rs.take k)
    simp at hlen
    by_cases hlt : k < rs.length
    · obtain ⟨b, off, pa, pc, na, nc, rfl, hS, hb, h0, -⟩ := (hr.below hb0 fun _ _ h => h).rule hlt
      have cb : wr.cell? ⟨w.heap.size, 1, none⟩ = some (.slice (some ⟨b, off, none⟩) rs.length rc) := by rw [hbel.cell (by simp)]; simp
      have hsn := Lib.hid (ofL_snoc at_ rs k hlt)
      by_cases he : rs[k].head = at_
      · go_wp2_with (at_builtin; refine wpList_app_int rfl _ _ 24 rfl Try.underlying24 infoInt rfl hown rfl (y := (k:Int)) Seq.way ?_ ?_ ?_ ?_ ?_)
        · exact ⟨by omega, by omega⟩
        · go_simp
        · omega
        · exact hsz
        · intro ao cap w' hown' hkept
          clear hown
          go_wp2
          go_roundw
          case rel =>
            refine ⟨k+1, hlt, by go_num, ?_, hbel.trans (Below.trans Seq.way hkept.below)⟩
            rw [hsn.out, if_pos he]
            simpa using hown'
          case measure => simp [intOf]; omega
      · go_wp2
        go_roundw
        case rel =>
          refine ⟨k+1, hlt, by go_num, ?_, hbel⟩
          rw [hsn.out, if_neg he, List.append_nil]
          exact hown
        case measure => simp [intOf]; omega
    · obtain rfl : k = rs.length := by omega
      have cb : wr.cell? ⟨w.heap.size, 1, none⟩ = some (.slice ra rs.length rc) := by rw [hbel.cell (by simp)]; simp
      go_wp2
      go_ret
      refine ⟨_, rfl, hb0, ?_⟩
      rw [List.take_length] at hown hlen
      exact hown.seq (by omega) fun b _ hb => hb.elim .inl fun h => .inr (by omega)

def rulesB (g : Prog) (a : Int) : Bool := g.rules.any fun r => r.head == a

theorem ofL_pos (a : Int) (l : List Rule) : decide ((0 : Int) < ((ofL a l).length : Int)) = l.any (fun r => r.head == a) := by
  rw [Bool.eq_iff_iff, decide_eq_true_eq, List.any_eq_true]
  have h : (0 : Int) < ((ofL a l).length : Int) ↔ ofL a l ≠ [] := by
    rw [ne_eq, ← List.length_eq_zero_iff]; omega
  rw [h, ofL, ne_eq, List.map_eq_nil_iff, List.filter_eq_nil_iff]
  constructor
  · intro h
    false_or_by_contra
    rename_i hno
    apply h
    intro p hp
    obtain ⟨k, hk, rfl⟩ := List.mem_iff_getElem.1 hp
    simp at hk ⊢
    intro he
    exact hno ⟨l[k], List.getElem_mem hk, by simp [he]⟩
  · rintro ⟨r, hr, he⟩ h
    obtain ⟨k, hk, rfl⟩ := List.mem_iff_getElem.1 hr
    exact h (l[k], k) (List.mem_iff_getElem.2 ⟨k, by simpa using hk, by simp⟩) he

theorem rules_spec {S : Nat → Prop} {w : World} {v : Value} {g : Prog} {a : Int} (hg : ProgV S w v g) (hl : g.rules.length ≤ 1000000000) :
    Calls Try.prog 47 #[v, .int .i64 a] w (RetV (.bool (rulesB g a)) w) := by
  have hg' := hg
  obtain ⟨va, vr, rfl, hga, ⟨ra, rc, rfl, -⟩⟩ := hg
  have hf := Lib.hid (show rulesB g a = decide ((0 : Int) < ((ofL a g.rules).length : Int)) by rw [ofL_pos]; rfl)
  go_enter Try.func47, Try.ntmps47
  go_wp2_with fail
  refine (Of16_spec (hg'.mono (fun _ h _ => h) fun b _ hb => Below.heap_alloc _ _ _ hb) hl).mono ?_
  rintro e w1 ⟨r, rfl, hb, hr⟩
  obtain ⟨ao, cap, rfl, -⟩ := hr
  go_wp2
  go_ret
  exact ⟨ret_bool (by rw [hf.out]; simp), (Seq.way (w := w) (B := w.heap.size)).trans (hb.mono (by simp))⟩

/-! ### without -/
def withoutL (l m : List Int) : List Int := l.filter fun x => !inB m x

theorem withoutL_snoc (l m : List Int) (k : Nat) (hk : k < l.length) : withoutL (l.take (k+1)) m = withoutL (l.take k) m ++ (if inB m l[k] = true then [] else [l[k]]) := by
  unfold withoutL
  rw [List.take_succ_eq_append_getElem hk, List.filter_append]
  congr 1
  cases h : inB m l[k] <;> simp [h]

theorem withoutL_len (l m : List Int) : (withoutL l m).length ≤ l.length := List.length_filter_le _ _

set_option maxHeartbeats 800000 in
theorem without_spec {S T : Nat → Prop} {w : World} {v u : Value} {l m : List Int} (hl : Seq intE S w v l) (hm : Seq intE T w u m) (hlen : l.length ≤ 1000000000) :
    Calls Try.prog 42 #[v, u] w (Ret (fun r w' => Seq intE (fun b => w.heap.size ≤ b) w' r (withoutL l m)) w) := by
  obtain ⟨ao, cap, rfl, h1, h2, h3, h4, h5⟩ := hl
  have hm' := hm
  obtain ⟨bo, cap', rfl, -⟩ := hm
  go_enter Try.func42, Try.ntmps42
  go_wp2
  go_loopw [5, 6] (fun o i wr => ∃ k : Nat, k ≤ l.length ∧ i = .int .i64 k ∧ Own intE (fun _ => False) w.heap.size 3 wr o (withoutL (l.take k) m) ∧ Below w.heap.size w wr) (fun _ i _ => l.length - (intOf i).toNat)
  case atStart =>
    refine ⟨0, Nat.zero_le _, rfl, Own.lit0 rfl (Nat.le_refl _) rfl, Seq.way⟩
  case round =>
    obtain ⟨k, hk, rfl, hown, hbel⟩ := hrel
    have hsz : w.heap.size ≤ wr.heap.size := hbel.size
    have hln := withoutL_len (l.take k) m
    simp at hln
    by_cases hlt : k < l.length
    · obtain ⟨b, off, rfl, hS, hb, h0, hok⟩ := (h5.below hbel fun _ _ h => h).int hlt
      have hsn := Lib.hid (withoutL_snoc l m k hlt)
      have hmr := hm'.at hbel
      clear hm'
      go_wp2_with fail
      refine (in_spec hmr).mono ?_
      rintro e _ ⟨rfl, rfl⟩
      cases hi : inB m l[k]
      · have hi' := Lib.hid hi
        clear hi
        go_wp2_with (at_builtin; refine wpList_app_int rfl _ _ 24 rfl Try.underlying24 infoInt rfl hown rfl (y := l[k]) Seq.way ?_ ?_ ?_ ?_ ?_)
        · exact hok
        · go_simp
        · omega
        · exact hsz
        · intro ao cap w' hown' hkept
          clear hown
          go_wp2
          go_roundw
          case rel =>
            refine ⟨k+1, hlt, by go_num, ?_, hbel.trans (Below.trans Seq.way hkept.below)⟩
            rw [hsn.out, hi'.out, if_neg (by simp)]
            simpa using hown'
          case measure => simp [intOf]; omega
      · have hi' := Lib.hid hi
        clear hi
        go_wp2
        go_roundw
        case rel =>
          refine ⟨k+1, hlt, by go_num, ?_, hbel⟩
          rw [hsn.out, hi'.out, if_pos rfl, List.append_nil]
          exact hown
        case measure => simp [intOf]; omega
    · obtain rfl : k = l.length := by omega
      go_wp2
      go_ret
      refine ⟨_, rfl, hbel, ?_⟩
      rw [List.take_length] at hown hln
      exact hown.seq (by omega) fun b _ hb => hb.elim False.elim id

/-! ### gone -/
def isGone (g : Prog) (follows : List Bool) (kind : Int) (x : Int) : Bool :=
  if kind = 5 then !(follows.getD x.toNat false) else if kind = 1 ∨ kind = 4 then !rulesB g x else factB g x

def sideL (kind : Int) (r : Rule) : List Int := if kind < 3 then r.neg else r.pos

def goneL (g : Prog) (follows : List Bool) (kind : Int) (r : Rule) : List Int := fltL (isGone g follows kind) (sideL kind r)

set_option maxHeartbeats 1600000 in
set_option maxRecDepth 100000 in
theorem gone_spec {S : Nat → Prop} {w : World} {v vf vr : Value} {g : Prog} {f : List Bool} {kind : Int} {r : Rule} (hg : ProgV S w v g) (hf : Seq boolE S w vf f) (hr : RuleV S w vr r)
    (hl : g.rules.length ≤ 1000000000) (hpl : r.pos.length ≤ 1000000000) (hnl : r.neg.length ≤ 1000000000) (hin : kind = 5 → ∀ x ∈ r.pos, 0 ≤ x ∧ x < f.length) :
    Calls Try.prog 30 #[v, vf, .int .i64 kind, vr] w (Ret (fun o w' => Seq intE (fun b => w.heap.size ≤ b) w' o (goneL g f kind r)) w) := by
  have hg' := hg
  have hf' := hf
  obtain ⟨va, vb, rfl, -⟩ := hg
  obtain ⟨ra, rc, rfl, hrc, hrm, hrl, hrn, hra⟩ := hf
  obtain ⟨vp, vn, rfl, hh, hp, hn⟩ := hr
  obtain ⟨W0, hW0⟩ : ∃ W0, W0 = (w.alloc (.cells #[va, vb] 30)).alloc (.cells #[.int .i64 r.head, vp, vn] 46) := ⟨_, rfl⟩
  have hcase : ∃ vs, ((kind < 3 ∧ vs = vn) ∨ (¬ kind < 3 ∧ vs = vp)) ∧ Seq intE S w vs (sideL kind r) := by
    unfold sideL
    by_cases h3 : kind < 3
    · exact ⟨vn, .inl ⟨h3, rfl⟩, by rw [if_pos h3]; exact hn⟩
    · exact ⟨vp, .inr ⟨h3, rfl⟩, by rw [if_neg h3]; exact hp⟩
  have hsl : (sideL kind r).length ≤ 1000000000 := by unfold sideL; split <;> assumption
  have hin' : kind = 5 → ∀ x ∈ sideL kind r, 0 ≤ x ∧ x < f.length := by
    intro h5 x hx
    refine hin h5 x ?_
    have : ¬ kind < 3 := by omega
    simpa [sideL, this] using hx
  clear hin hpl hnl hp hn
  obtain ⟨vs, hvs, hs⟩ := hcase
  obtain ⟨l, hl'⟩ : ∃ l, l = sideL kind r := ⟨_, rfl⟩
  obtain ⟨fu, hfu⟩ : ∃ fu, fu = isGone g f kind := ⟨_, rfl⟩
  have hgo := Lib.hid (show goneL g f kind r = fltL fu l by rw [hl', hfu]; rfl)
  rw [← hl'] at hs hsl hin'
  clear hl'
  have hfu5 := Lib.hid (show kind = 5 → ∀ x, fu x = !(f.getD x.toNat false) by intro h x; rw [hfu]; unfold isGone; rw [if_pos h])
  have hfu14 := Lib.hid (show kind = 1 ∨ kind = 4 → ∀ x, fu x = !rulesB g x by intro h x; rw [hfu]; unfold isGone; rw [if_neg (by omega), if_pos h])
  have hfuE := Lib.hid (show kind ≠ 5 → ¬ (kind = 1 ∨ kind = 4) → ∀ x, fu x = factB g x by intro h h' x; rw [hfu]; unfold isGone; rw [if_neg h, if_neg h'])
  clear hfu
  have HW := Lib.hid hW0
  have hB0 : Below w.heap.size w W0 := by rw [hW0]; exact Seq.way
  have hs0 : W0.heap.size = w.heap.size + 2 := by rw [hW0]; simp
  have c0 : W0.cell? ⟨w.heap.size, 0, none⟩ = some va := by rw [hW0]; go_simp
  have c1 : W0.cell? ⟨w.heap.size, 1, none⟩ = some vb := by rw [hW0]; go_simp
  clear hW0
  have hs0' := Lib.hid hs0
  clear hs0
  rcases hvs with ⟨h3, rfl⟩ | ⟨h3, rfl⟩
  all_goals
    obtain ⟨sa, sc, rfl, h1, h2, h3', h4, h5⟩ := hs
    go_enter Try.func30, Try.ntmps30
    go_wp2_with fail
    go_loopw [10, 11] (fun o i wr => ∃ k : Nat, k ≤ l.length ∧ i = .int .i64 k ∧ Own intE (fun _ => False) (w.heap.size+2) 3 wr o (fltL fu (l.take k)) ∧ Below (w.heap.size+2) W0 wr) (fun _ i _ => l.length - (intOf i).toNat)
    case atStart =>
      refine ⟨0, Nat.zero_le _, rfl, Own.lit0 (by simp) (by simp) rfl, ?_⟩
      rw [HW.out]; exact Seq.way
    case round =>
      obtain ⟨k, hk, rfl, hown, hbel⟩ := hrel
      have hb0 : Below w.heap.size w wr := hB0.trans (hbel.mono (by omega))
      have hsz : w.heap.size + 2 ≤ wr.heap.size := by have := hbel.size; have := hs0'.out; omega
      have hln := fltL_len fu (l.take k)
      simp at hln
      have d0 := (hbel.cell (p := ⟨w.heap.size, 0, none⟩) (by simp)).trans c0
      have d1 := (hbel.cell (p := ⟨w.heap.size, 1, none⟩) (by simp)).trans c1
      clear c0 c1
      have hszl : w.heap.size < wr.heap.size := by omega
      by_cases hlt : k < l.length
      · obtain ⟨b, off, rfl, hS, hb, h0, hok⟩ := (h5.below hb0 fun _ _ h => h).int hlt
        have hgr := hg'.mono (T := S) (w' := wr.drew) (fun _ h _ => h) fun b _ hb => hb0.block b hb
        have hk4 : (kind = 5 ∧ ∃ fb fo, ra = some ⟨fb, fo, none⟩ ∧ fb < wr.heap.size ∧ wr.cell? ⟨fb, fo + l[k].toNat, none⟩ = some (.bool (!fu l[k])) ∧ 0 ≤ l[k] ∧ l[k] < f.length) ∨
            (kind ≠ 5 ∧ (kind = 1 ∨ kind = 4) ∧ rulesB g l[k] = !fu l[k]) ∨ (kind ≠ 5 ∧ ¬ (kind = 1 ∨ kind = 4) ∧ factB g l[k] = fu l[k]) := by
          by_cases h5' : kind = 5
          · obtain ⟨p1, p2⟩ := hin' h5' l[k] (List.getElem_mem hlt)
            have p3 : l[k].toNat < f.length := by omega
            obtain ⟨fb, fo, q1, -, q3, q4⟩ := (hra.below hb0 fun _ _ h => h).bool p3
            refine .inl ⟨h5', fb, fo, q1, q3, ?_, p1, p2⟩
            rw [q4, hfu5.out h5' l[k], Bool.not_not, List.getD_eq_getElem?_getD, List.getElem?_eq_getElem p3]; rfl
          · by_cases h14 : kind = 1 ∨ kind = 4
            · exact .inr (.inl ⟨h5', h14, by rw [hfu14.out h14, Bool.not_not]⟩)
            · exact .inr (.inr ⟨h5', h14, by rw [hfuE.out h5' h14]⟩)
        have hsy := fun h => Lib.hid (fltL_yes (f := fu) hlt h)
        have hsn := fun h => Lib.hid (fltL_no (f := fu) hlt h)
        clear hra hfu5 hfu14 hfuE h5
        cases hv : fu l[k]
        · skip
          have hs' := hsn hv
          clear hsy hsn
          rw [hv] at hk4
          rcases hk4 with ⟨h5', fb, fo, rfl, hfb, q, p1, p2⟩ | ⟨h5', h14, q⟩ | ⟨h5', h14, q⟩
          · subst h5'
            first
            | (exfalso; omega)
            | (go_wp2_with fail
               go_still_tail 5, (by kernel_rfl)
               go_wp2_with fail
               refine (fact_spec hgr).mono ?_
               rintro e w1 ⟨rfl, hb1⟩
               have hc1 : ∀ b o, b < wr.heap.size → w1.cell? ⟨b, o, none⟩ = wr.cell? ⟨b, o, none⟩ := fun b o h => hb1.cell (p := ⟨b, o, none⟩) h
               have hw : Below wr.heap.size wr w1 := (Below.refl _ wr).drew.trans hb1
               go_wp2_with fail
               go_roundw
               case rel => exact ⟨k+1, hlt, by go_num, by rw [hs'.out]; exact hown.move hw, hbel.trans (hw.mono hsz)⟩
               case measure => simp [intOf]; omega)
          · rcases h14 with rfl | rfl
            all_goals
              first
              | (exfalso; omega)
              | (go_wp2_with fail
                 go_still_tail 5, (by kernel_rfl)
                 go_wp2_with fail
                 refine (fact_spec hgr).mono ?_
                 rintro e w1 ⟨rfl, hb1⟩
                 have hc1 : ∀ b o, b < wr.heap.size → w1.cell? ⟨b, o, none⟩ = wr.cell? ⟨b, o, none⟩ := fun b o h => hb1.cell (p := ⟨b, o, none⟩) h
                 have hs1 : wr.heap.size ≤ w1.heap.size := hb1.size
                 have hbs1 : b < w1.heap.size := by omega
                 have hws1 : w.heap.size < w1.heap.size := by omega
                 have hgr1 := hgr.mono (T := S) (w' := w1.drew) (fun _ h _ => h) fun b _ hb => hb1.block b hb
                 go_wp2_with fail
                 go_still_tail 5, (by kernel_rfl)
                 go_wp2_with fail
                 refine (rules_spec hgr1 hl).mono ?_
                 rintro e w2 ⟨rfl, hb2⟩
                 have hc2 : ∀ b o, b < w1.heap.size → w2.cell? ⟨b, o, none⟩ = w1.cell? ⟨b, o, none⟩ := fun b o h => hb2.cell (p := ⟨b, o, none⟩) h
                 have hw : Below wr.heap.size wr w2 := ((Below.refl _ wr).drew.trans hb1).drew.trans (hb2.mono hs1)
                 go_wp2_with fail
                 go_roundw
                 case rel => exact ⟨k+1, hlt, by go_num, by rw [hs'.out]; exact hown.move hw, hbel.trans (hw.mono hsz)⟩
                 case measure => simp [intOf]; omega)
          · have n1 : (kind == 1) = false := by simp; omega
            have n4 : (kind == 4) = false := by simp; omega
            go_wp2_with fail
            go_still_tail 5, (by kernel_rfl)
            go_wp2_with fail
            refine (fact_spec hgr).mono ?_
            rintro e w1 ⟨rfl, hb1⟩
            have hc1 : ∀ b o, b < wr.heap.size → w1.cell? ⟨b, o, none⟩ = wr.cell? ⟨b, o, none⟩ := fun b o h => hb1.cell (p := ⟨b, o, none⟩) h
            have hw : Below wr.heap.size wr w1 := (Below.refl _ wr).drew.trans hb1
            go_wp2_with fail
            go_roundw
            case rel => exact ⟨k+1, hlt, by go_num, by rw [hs'.out]; exact hown.move hw, hbel.trans (hw.mono hsz)⟩
            case measure => simp [intOf]; omega
        · skip
          have hs' := hsy hv
          clear hsy hsn
          rw [hv] at hk4
          rcases hk4 with ⟨h5', fb, fo, rfl, hfb, q, p1, p2⟩ | ⟨h5', h14, q⟩ | ⟨h5', h14, q⟩
          · subst h5'
            first
            | (exfalso; omega)
            | (go_wp2_with fail
               go_still_tail 5, (by kernel_rfl)
               go_wp2_with fail
               refine (fact_spec hgr).mono ?_
               rintro e w1 ⟨rfl, hb1⟩
               have hc1 : ∀ b o, b < wr.heap.size → w1.cell? ⟨b, o, none⟩ = wr.cell? ⟨b, o, none⟩ := fun b o h => hb1.cell (p := ⟨b, o, none⟩) h
               have hw : Below wr.heap.size wr w1 := (Below.refl _ wr).drew.trans hb1
               have hsw := hw.size
               go_wp2_with (at_builtin; refine wpList_app_int rfl _ _ 24 rfl Try.underlying24 infoInt rfl hown rfl (y := l[k]) (hw.alloc hsw _) ?_ ?_ ?_ ?_ ?_)
               · exact hok
               · go_simp
               · omega
               · exact hsz
               · intro ao cap w' hown' hkept
                 clear hown
                 go_wp2_with fail
                 go_roundw
                 case rel => exact ⟨k+1, hlt, by go_num, by rw [hs'.out]; simpa using hown', hbel.trans (((hw.mono hsz).alloc (by omega) _).trans hkept.below)⟩
                 case measure => simp [intOf]; omega)
          · rcases h14 with rfl | rfl
            all_goals
              first
              | (exfalso; omega)
              | (go_wp2_with fail
                 go_still_tail 5, (by kernel_rfl)
                 go_wp2_with fail
                 refine (fact_spec hgr).mono ?_
                 rintro e w1 ⟨rfl, hb1⟩
                 have hc1 : ∀ b o, b < wr.heap.size → w1.cell? ⟨b, o, none⟩ = wr.cell? ⟨b, o, none⟩ := fun b o h => hb1.cell (p := ⟨b, o, none⟩) h
                 have hs1 : wr.heap.size ≤ w1.heap.size := hb1.size
                 have hbs1 : b < w1.heap.size := by omega
                 have hws1 : w.heap.size < w1.heap.size := by omega
                 have hgr1 := hgr.mono (T := S) (w' := w1.drew) (fun _ h _ => h) fun b _ hb => hb1.block b hb
                 go_wp2_with fail
                 go_still_tail 5, (by kernel_rfl)
                 go_wp2_with fail
                 refine (rules_spec hgr1 hl).mono ?_
                 rintro e w2 ⟨rfl, hb2⟩
                 have hc2 : ∀ b o, b < w1.heap.size → w2.cell? ⟨b, o, none⟩ = w1.cell? ⟨b, o, none⟩ := fun b o h => hb2.cell (p := ⟨b, o, none⟩) h
                 have hw : Below wr.heap.size wr w2 := ((Below.refl _ wr).drew.trans hb1).drew.trans (hb2.mono hs1)
                 have hsw := hw.size
                 go_wp2_with (at_builtin; refine wpList_app_int rfl _ _ 24 rfl Try.underlying24 infoInt rfl hown rfl (y := l[k]) (hw.alloc hsw _) ?_ ?_ ?_ ?_ ?_)
                 · exact hok
                 · go_simp
                 · omega
                 · exact hsz
                 · intro ao cap w' hown' hkept
                   clear hown
                   go_wp2_with fail
                   go_roundw
                   case rel => exact ⟨k+1, hlt, by go_num, by rw [hs'.out]; simpa using hown', hbel.trans (((hw.mono hsz).alloc (by omega) _).trans hkept.below)⟩
                   case measure => simp [intOf]; omega)
          · have n1 : (kind == 1) = false := by simp; omega
            have n4 : (kind == 4) = false := by simp; omega
            go_wp2_with fail
            go_still_tail 5, (by kernel_rfl)
            go_wp2_with fail
            refine (fact_spec hgr).mono ?_
            rintro e w1 ⟨rfl, hb1⟩
            have hc1 : ∀ b o, b < wr.heap.size → w1.cell? ⟨b, o, none⟩ = wr.cell? ⟨b, o, none⟩ := fun b o h => hb1.cell (p := ⟨b, o, none⟩) h
            have hw : Below wr.heap.size wr w1 := (Below.refl _ wr).drew.trans hb1
            have hsw := hw.size
            go_wp2_with (at_builtin; refine wpList_app_int rfl _ _ 24 rfl Try.underlying24 infoInt rfl hown rfl (y := l[k]) (hw.alloc hsw _) ?_ ?_ ?_ ?_ ?_)
            · exact hok
            · go_simp
            · omega
            · exact hsz
            · intro ao cap w' hown' hkept
              clear hown
              go_wp2_with fail
              go_roundw
              case rel => exact ⟨k+1, hlt, by go_num, by rw [hs'.out]; simpa using hown', hbel.trans (((hw.mono hsz).alloc (by omega) _).trans hkept.below)⟩
              case measure => simp [intOf]; omega
      · obtain rfl : k = l.length := by omega
        rw [List.take_length] at hown hln
        clear hra h5 hfu5 hfu14 hfuE
        go_wp2_with fail
        go_ret
        refine ⟨_, rfl, hb0, ?_⟩
        rw [hgo.out]
        exact hown.seq (by omega) fun b _ hb => hb.elim False.elim fun h => by omega
end Go.Proofs.Ytdbennmbbmoflaa
