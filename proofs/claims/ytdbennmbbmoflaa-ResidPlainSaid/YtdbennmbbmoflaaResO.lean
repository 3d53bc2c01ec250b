/-
  Layer 18, plain facts: what look makes of a program: who has rules, who is a fact, who waits for whom, and what follows.
-/
import Derived.Test.YtdbennmbbmoflaaResN
namespace Go.Proofs.Ytdbennmbbmoflaa
open Go Go.RowKit

/-- Programs as the laws have them: small, in order. -/
structure FineP (g : Prog) : Prop extends GoodP g where
  rsm : g.rules.length ≤ 100000
  psm : ∀ r ∈ g.rules, r.pos.length ≤ 100000
  sort : SortR g.rules

/-- What look knows behind some rules. -/
structure LS where
  fact : List Bool
  rules : List Bool
  missing : List Int
  waits : List (List Int)
  todo : List Int

def wOne (i : Nat) (ws : List (List Int)) (a : Int) : List (List Int) := ws.set a.toNat (ws.getD a.toNat [] ++ [(i : Int)])
def wPos (i : Nat) (ws : List (List Int)) (l : List Int) : List (List Int) := l.foldl (wOne i) ws
def lsInit (n m : Nat) : LS := ⟨List.replicate n false, List.replicate n false, List.replicate m 0, List.replicate n [], []⟩
def lsRule (s : LS) (i : Nat) (r : Rule) : LS where
  fact := if r.pos.length = 0 then s.fact.set r.head.toNat (s.fact.getD r.head.toNat false || r.neg.length == 0) else s.fact
  rules := s.rules.set r.head.toNat true
  missing := s.missing.set i (r.pos.length : Int)
  waits := wPos i s.waits r.pos
  todo := if r.pos.length = 0 then s.todo ++ [r.head] else s.todo
def lsTo (n : Nat) (rs : List Rule) : Nat → LS
  | 0 => lsInit n rs.length
  | k + 1 => match rs[k]? with
    | some r => lsRule (lsTo n rs k) k r
    | none => lsTo n rs k
theorem lsTo_succ (n : Nat) (rs : List Rule) (k : Nat) (hk : k < rs.length) : lsTo n rs (k + 1) = lsRule (lsTo n rs k) k rs[k] := by
  show (match rs[k]? with | some r => lsRule (lsTo n rs k) k r | none => lsTo n rs k) = _
  rw [List.getElem?_eq_getElem hk]

theorem getD_set {α : Type} (l : List α) (i j : Nat) (x d : α) (hi : i < l.length) : (l.set i x).getD j d = if i = j then x else l.getD j d := by
  rw [List.getD_eq_getElem?_getD, List.getElem?_set, List.getD_eq_getElem?_getD]
  split
  · simp
  · rfl

theorem wPos_len (i : Nat) : ∀ (l : List Int) (ws : List (List Int)), (wPos i ws l).length = ws.length
  | [], _ => rfl
  | a :: l, ws => by show (wPos i (wOne i ws a) l).length = _; rw [wPos_len i l]; simp [wOne]
theorem wPos_snoc (i : Nat) (ws : List (List Int)) (l : List Int) (m : Nat) (hm : m < l.length) : wPos i ws (l.take (m + 1)) = wOne i (wPos i ws (l.take m)) l[m] := by
  unfold wPos; rw [List.take_succ_eq_append_getElem hm, List.foldl_append]; rfl

theorem wPos_at (i : Nat) : ∀ (l : List Int) (ws : List (List Int)) (a : Nat), a < ws.length → (∀ x ∈ l, 0 ≤ x ∧ x < ws.length) → (wPos i ws l).getD a [] = ws.getD a [] ++ List.replicate (l.count (a : Int)) (i : Int)
  | [], ws, a, _, _ => by simp [wPos]
  | x :: l, ws, a, ha, hl => by
    have hx := hl x (by simp)
    show (wPos i (wOne i ws x) l).getD a [] = _
    have hlen : (wOne i ws x).length = ws.length := by simp [wOne]
    rw [wPos_at i l _ a (by rw [hlen]; exact ha) (by rw [hlen]; exact fun y hy => hl y (by simp [hy]))]
    have : (wOne i ws x).getD a [] = if x.toNat = a then ws.getD x.toNat [] ++ [(i : Int)] else ws.getD a [] := by
      unfold wOne; rw [getD_set _ _ _ _ _ (by omega)]
    rw [this, List.count_cons]
    by_cases h : x.toNat = a
    · have hxa : x = (a : Int) := by omega
      subst h
      rw [if_pos rfl]
      have : (x == ((x.toNat : Nat) : Int)) = true := by rw [beq_iff_eq]; omega
      rw [this, if_pos rfl, List.append_assoc, List.replicate_succ]; rfl
    · have hxa : (x == (a : Int)) = false := by rw [beq_eq_false_iff_ne]; omega
      rw [if_neg h, hxa]; simp

theorem wPos_ll {i : Nat} {ws : List (List Int)} {l : List Int} {a : Nat} {lx : List Int} (hl : ∀ x ∈ l, 0 ≤ x ∧ x < ws.length) (h : (wPos i ws l)[a]? = some lx) : lx.length ≤ (ws.getD a []).length + l.length := by
  have ha := (List.getElem?_eq_some_iff.1 h).1
  rw [wPos_len] at ha
  have h1 := wPos_at i l ws a ha hl
  rw [List.getD_eq_getElem?_getD, h, Option.getD_some] at h1
  have h2 : l.count (a : Int) ≤ l.length := List.count_le_length
  rw [h1, List.length_append, List.length_replicate]; omega

/-! ### The state behind k rules -/
structure LSok (n : Nat) (rs : List Rule) (k : Nat) (s : LS) : Prop where
  flen : s.fact.length = n
  rlen : s.rules.length = n
  mlen : s.missing.length = rs.length
  wlen : s.waits.length = n
  fact : ∀ a : Nat, s.fact.getD a false = (rs.take k).any fun r => r.head == (a : Int) && r.pos.length == 0 && r.neg.length == 0
  rules : ∀ a : Nat, s.rules.getD a false = (rs.take k).any fun r => r.head == (a : Int)
  miss : ∀ (i : Nat) (h : i < rs.length), s.missing.getD i 0 = if i < k then (rs[i].pos.length : Int) else 0
  wcnt : ∀ (a i : Nat) (h : i < rs.length), a < n → (s.waits.getD a []).count (i : Int) = if i < k then rs[i].pos.count (a : Int) else 0
  wmem : ∀ a : Nat, ∀ x ∈ s.waits.getD a [], ∃ i : Nat, i < k ∧ x = (i : Int)
  wll : ∀ a : Nat, (s.waits.getD a []).length ≤ 100000 * k
  todo : ∀ x, x ∈ s.todo ↔ ∃ r ∈ rs.take k, r.pos = [] ∧ r.head = x
  tlen : s.todo.length = (rs.take k).countP fun r => r.pos.length == 0

theorem any_snoc {α : Type} (f : α → Bool) (l : List α) (k : Nat) (hk : k < l.length) : (l.take (k + 1)).any f = ((l.take k).any f || f l[k]) := by
  rw [List.take_succ_eq_append_getElem hk, List.any_append]; simp

theorem lsTo_ok {n : Nat} {rs : List Rule} (hg : ∀ r ∈ rs, GoodR n r) (hp : ∀ r ∈ rs, r.pos.length ≤ 100000) : ∀ k, k ≤ rs.length → LSok n rs k (lsTo n rs k)
  | 0, _ => by
    have hrep : ∀ (a m : Nat), (List.replicate m false).getD a false = false := by
      intro a m; rw [List.getD_eq_getElem?_getD, List.getElem?_replicate]; split <;> rfl
    have hw : ∀ a : Nat, (List.replicate n ([] : List Int)).getD a [] = [] := by
      intro a; rw [List.getD_eq_getElem?_getD, List.getElem?_replicate]; split <;> rfl
    refine ⟨by simp [lsTo, lsInit], by simp [lsTo, lsInit], by simp [lsTo, lsInit], by simp [lsTo, lsInit], fun a => ?_, fun a => ?_, fun i h => ?_, fun a i h _ => ?_, fun a x hx => ?_, fun a => ?_, fun x => ?_, ?_⟩
    · show (List.replicate n false).getD a false = _; rw [hrep]; rfl
    · show (List.replicate n false).getD a false = _; rw [hrep]; rfl
    · show (List.replicate rs.length (0 : Int)).getD i 0 = _
      rw [List.getD_eq_getElem?_getD, List.getElem?_replicate, if_pos h]; rfl
    · show ((List.replicate n ([] : List Int)).getD a []).count _ = _; rw [hw]; rfl
    · have hx' : x ∈ (List.replicate n ([] : List Int)).getD a [] := hx
      rw [hw] at hx'; simp at hx'
    · show ((List.replicate n ([] : List Int)).getD a []).length ≤ _; rw [hw]; simp
    · simp [lsTo, lsInit]
    · simp [lsTo, lsInit]
  | k + 1, hk => by
    have ih := lsTo_ok hg hp k (by omega)
    have hk' : k < rs.length := by omega
    have hgr := hg _ (List.getElem_mem hk')
    have hpl := hp _ (List.getElem_mem hk')
    have hh := hgr.head
    rw [lsTo_succ n rs k hk']
    have hw : ∀ a : Nat, a < n → (wPos k (lsTo n rs k).waits rs[k].pos).getD a [] = (lsTo n rs k).waits.getD a [] ++ List.replicate (rs[k].pos.count (a : Int)) (k : Int) :=
      fun a ha => wPos_at k _ _ a (by rw [ih.wlen]; exact ha) (by rw [ih.wlen]; exact hgr.pos)
    have hwo : ∀ a : Nat, ¬ a < n → (wPos k (lsTo n rs k).waits rs[k].pos).getD a [] = [] := by
      intro a ha
      rw [List.getD_eq_getElem?_getD, List.getElem?_eq_none (by rw [wPos_len, ih.wlen]; omega)]; rfl
    have hcast : ∀ a : Nat, (rs[k].head == (a : Int)) = decide (rs[k].head.toNat = a) := by
      intro a; rw [Bool.eq_iff_iff, beq_iff_eq, decide_eq_true_eq]; omega
    refine ⟨?_, ?_, ?_, ?_, fun a => ?_, fun a => ?_, fun i h => ?_, fun a i h ha => ?_, fun a x hx => ?_, fun a => ?_, fun x => ?_, ?_⟩
    · show (if rs[k].pos.length = 0 then _ else _ : List Bool).length = n
      split <;> simp [ih.flen]
    · simp [lsRule, ih.rlen]
    · simp [lsRule, ih.mlen]
    · show (wPos _ _ _).length = n; rw [wPos_len, ih.wlen]
    · rw [any_snoc _ _ _ hk', ← ih.fact a, hcast]
      show (if rs[k].pos.length = 0 then _ else _ : List Bool).getD a false = _
      split
      · rename_i h0
        rw [getD_set _ _ _ _ _ (by rw [ih.flen]; omega)]
        by_cases h : rs[k].head.toNat = a
        · subst h; simp [h0]
        · simp [h]
      · rename_i h0
        have : (rs[k].pos.length == 0) = false := by simpa using h0
        simp [this]
    · rw [any_snoc _ _ _ hk', ← ih.rules a, hcast]
      show ((lsTo n rs k).rules.set _ _).getD a false = _
      rw [getD_set _ _ _ _ _ (by rw [ih.rlen]; omega)]
      by_cases h : rs[k].head.toNat = a
      · subst h; simp
      · simp [h]
    · show ((lsTo n rs k).missing.set k (rs[k].pos.length : Int)).getD i 0 = _
      rw [getD_set _ _ _ _ _ (by rw [ih.mlen]; omega)]
      by_cases h2 : k = i
      · subst h2; rw [if_pos rfl, if_pos (by omega)]
      · rw [if_neg h2, ih.miss i h]
        by_cases h3 : i < k
        · rw [if_pos h3, if_pos (by omega)]
        · rw [if_neg h3, if_neg (by omega)]
    · show ((wPos k (lsTo n rs k).waits rs[k].pos).getD a []).count (i : Int) = _
      rw [hw a ha, List.count_append, ih.wcnt a i h ha, List.count_replicate]
      by_cases h2 : k = i
      · subst h2; simp
      · have : ((k : Int) == (i : Int)) = false := by rw [beq_eq_false_iff_ne]; omega
        rw [this]
        simp only [Bool.false_eq_true, if_false, Nat.add_zero]
        by_cases h3 : i < k
        · rw [if_pos h3, if_pos (by omega)]
        · rw [if_neg h3, if_neg (by omega)]
    · have hx' : x ∈ (wPos k (lsTo n rs k).waits rs[k].pos).getD a [] := hx
      by_cases ha : a < n
      · rw [hw a ha, List.mem_append] at hx'
        rcases hx' with h | h
        · obtain ⟨i, hi, rfl⟩ := ih.wmem a x h
          exact ⟨i, by omega, rfl⟩
        · exact ⟨k, by omega, (List.mem_replicate.1 h).2⟩
      · rw [hwo a ha] at hx'; simp at hx'
    · show ((wPos k (lsTo n rs k).waits rs[k].pos).getD a []).length ≤ _
      by_cases ha : a < n
      · have h1 := ih.wll a
        have h2 : rs[k].pos.count (a : Int) ≤ rs[k].pos.length := List.count_le_length
        rw [hw a ha, List.length_append, List.length_replicate]; omega
      · rw [hwo a ha]; simp
    · rw [List.take_succ_eq_append_getElem hk']
      show x ∈ (if rs[k].pos.length = 0 then _ else _ : List Int) ↔ _
      have hnil : rs[k].pos.length = 0 ↔ rs[k].pos = [] := List.length_eq_zero_iff
      split
      · rename_i h0
        rw [List.mem_append, ih.todo x]
        constructor
        · rintro (⟨r, h1, h2⟩ | h1)
          · exact ⟨r, List.mem_append_left _ h1, h2⟩
          · exact ⟨rs[k], List.mem_append_right _ (List.mem_singleton_self _), hnil.1 h0, (List.mem_singleton.1 h1).symm⟩
        · rintro ⟨r, h1, h2, h3⟩
          rcases List.mem_append.1 h1 with h1 | h1
          · exact .inl ⟨r, h1, h2, h3⟩
          · right; rw [List.mem_singleton] at h1 ⊢; rw [← h3, h1]
      · rename_i h0
        rw [ih.todo x]
        constructor
        · rintro ⟨r, h1, h2⟩
          exact ⟨r, List.mem_append_left _ h1, h2⟩
        · rintro ⟨r, h1, h2, h3⟩
          rcases List.mem_append.1 h1 with h1 | h1
          · exact ⟨r, h1, h2, h3⟩
          · rw [List.mem_singleton] at h1; subst h1; exact absurd (hnil.2 h2) h0
    · rw [List.take_succ_eq_append_getElem hk', List.countP_append, ← ih.tlen]
      show (if rs[k].pos.length = 0 then _ else _ : List Int).length = _
      split
      · rename_i h0; simp [h0]
      · rename_i h0
        have : (rs[k].pos.length == 0) = false := by simpa using h0
        simp [this]

/-! ### The row of what is to be done -/
def wlStep (hs : List Int) (s : List Int × List Int) (i : Int) : List Int × List Int :=
  (s.1.set i.toNat (s.1.getD i.toNat 0 - 1), if s.1.getD i.toNat 0 - 1 = 0 then s.2 ++ [hs.getD i.toNat 0] else s.2)
def wlIn (hs : List Int) (s : List Int × List Int) (is : List Int) : List Int × List Int := is.foldl (wlStep hs) s
def cntZ (m : List Int) : Nat := m.countP fun x => decide (x ≤ 0)

theorem cntZ_le (m : List Int) : cntZ m ≤ m.length := List.countP_le_length

theorem wlIn_snoc (hs : List Int) (s : List Int × List Int) (is : List Int) (k : Nat) (hk : k < is.length) : wlIn hs s (is.take (k + 1)) = wlStep hs (wlIn hs s (is.take k)) is[k] := by
  unfold wlIn; rw [List.take_succ_eq_append_getElem hk, List.foldl_append]; rfl
theorem wlStep_len (hs : List Int) (s : List Int × List Int) (i : Int) : (wlStep hs s i).1.length = s.1.length := by simp [wlStep]
theorem wlIn_len (hs : List Int) : ∀ (is : List Int) (s : List Int × List Int), (wlIn hs s is).1.length = s.1.length
  | [], _ => rfl
  | i :: is, s => by show (wlIn hs (wlStep hs s i) is).1.length = _; rw [wlIn_len hs is, wlStep_len]

theorem wlStep_at (hs : List Int) (s : List Int × List Int) {i : Int} (hi : 0 ≤ i ∧ i < s.1.length) (j : Nat) : (wlStep hs s i).1.getD j 0 = s.1.getD j 0 - if i = (j : Int) then 1 else 0 := by
  unfold wlStep
  simp only
  rw [getD_set _ _ _ _ _ (by omega)]
  by_cases h : i.toNat = j
  · subst h
    rw [if_pos rfl, if_pos (by omega)]
  · rw [if_neg h, if_neg (by omega)]; omega

theorem wlIn_at (hs : List Int) : ∀ (is : List Int) (s : List Int × List Int), (∀ i ∈ is, 0 ≤ i ∧ i < s.1.length) → ∀ j : Nat, (wlIn hs s is).1.getD j 0 = s.1.getD j 0 - (is.count (j : Int) : Int)
  | [], s, _, j => by simp [wlIn]
  | i :: is, s, h, j => by
    show (wlIn hs (wlStep hs s i) is).1.getD j 0 = _
    rw [wlIn_at hs is _ (by rw [wlStep_len]; exact fun x hx => h x (by simp [hx])) j, wlStep_at hs s (h i (by simp)) j, List.count_cons]
    by_cases hij : i = (j : Int)
    · have : (i == (j : Int)) = true := by rw [beq_iff_eq]; exact hij
      rw [if_pos hij, this, if_pos rfl]; omega
    · have : (i == (j : Int)) = false := by rw [beq_eq_false_iff_ne]; exact hij
      rw [if_neg hij, this]; simp

theorem wlStep_old {hs : List Int} {s : List Int × List Int} {i x : Int} (h : x ∈ s.2) : x ∈ (wlStep hs s i).2 := by
  unfold wlStep; simp only; split
  · exact List.mem_append_left _ h
  · exact h
theorem wlIn_old {hs : List Int} {x : Int} : ∀ (is : List Int) (s : List Int × List Int), x ∈ s.2 → x ∈ (wlIn hs s is).2
  | [], _, h => h
  | i :: is, s, h => wlIn_old is (wlStep hs s i) (wlStep_old h)

theorem wlIn_new {hs : List Int} {x : Int} : ∀ (is : List Int) (s : List Int × List Int), (∀ i ∈ is, 0 ≤ i ∧ i < s.1.length) → x ∈ (wlIn hs s is).2 → x ∈ s.2 ∨ ∃ j : Nat, (j : Int) ∈ is ∧ x = hs.getD j 0 ∧ s.1.getD j 0 ≤ (is.count (j : Int) : Int)
  | [], _, _, h => .inl h
  | i :: is, s, hi, h => by
    have hi0 := hi i (by simp)
    have hs' : ∀ y ∈ is, 0 ≤ y ∧ y < (wlStep hs s i).1.length := by rw [wlStep_len]; exact fun y hy => hi y (by simp [hy])
    rcases wlIn_new is (wlStep hs s i) hs' h with h1 | ⟨j, h1, h2, h3⟩
    · unfold wlStep at h1
      simp only at h1
      split at h1
      · rename_i h0
        rcases List.mem_append.1 h1 with h1 | h1
        · exact .inl h1
        · right
          refine ⟨i.toNat, ?_, List.mem_singleton.1 h1, ?_⟩
          · have : ((i.toNat : Nat) : Int) = i := by omega
            rw [this]; simp
          · have : ((i.toNat : Nat) : Int) = i := by omega
            rw [this, List.count_cons_self]; omega
      · exact .inl h1
    · right
      refine ⟨j, by simp [h1], h2, ?_⟩
      rw [wlStep_at hs s hi0 j] at h3
      rw [List.count_cons]
      by_cases hij : i = (j : Int)
      · have : (i == (j : Int)) = true := by rw [beq_iff_eq]; exact hij
        rw [if_pos hij] at h3
        rw [this, if_pos rfl]; omega
      · have : (i == (j : Int)) = false := by rw [beq_eq_false_iff_ne]; exact hij
        rw [if_neg hij] at h3
        rw [this]; simp only [Bool.false_eq_true, if_false, Nat.add_zero]; omega

theorem wlIn_hit {hs : List Int} : ∀ (is : List Int) (s : List Int × List Int), (∀ i ∈ is, 0 ≤ i ∧ i < s.1.length) → ∀ j : Nat, 0 < s.1.getD j 0 → s.1.getD j 0 ≤ (is.count (j : Int) : Int) → hs.getD j 0 ∈ (wlIn hs s is).2
  | [], _, _, j, h1, h2 => by rw [List.count_nil] at h2; omega
  | i :: is, s, hi, j, h1, h2 => by
    have hi0 := hi i (by simp)
    have hs' : ∀ y ∈ is, 0 ≤ y ∧ y < (wlStep hs s i).1.length := by rw [wlStep_len]; exact fun y hy => hi y (by simp [hy])
    show hs.getD j 0 ∈ (wlIn hs (wlStep hs s i) is).2
    have hat := wlStep_at hs s hi0 j
    by_cases hij : i = (j : Int)
    · have hb : (i == (j : Int)) = true := by rw [beq_iff_eq]; exact hij
      rw [List.count_cons, hb, if_pos rfl] at h2
      rw [if_pos hij] at hat
      by_cases h0 : s.1.getD j 0 - 1 = 0
      · refine wlIn_old is _ ?_
        have hij' : i.toNat = j := by omega
        unfold wlStep
        simp only
        rw [hij', if_pos h0]
        simp
      · exact wlIn_hit is _ hs' j (by omega) (by omega)
    · have hb : (i == (j : Int)) = false := by rw [beq_eq_false_iff_ne]; exact hij
      rw [List.count_cons, hb] at h2
      rw [if_neg hij] at hat
      simp only [Bool.false_eq_true, if_false, Nat.add_zero] at h2
      exact wlIn_hit is _ hs' j (by omega) (by omega)

theorem wlIn_tl (hs : List Int) : ∀ (is : List Int) (s : List Int × List Int), (wlIn hs s is).2.length ≤ s.2.length + is.length
  | [], _ => Nat.le_refl _
  | i :: is, s => by
    show (wlIn hs (wlStep hs s i) is).2.length ≤ _
    have h1 := wlIn_tl hs is (wlStep hs s i)
    have h2 : (wlStep hs s i).2.length ≤ s.2.length + 1 := by unfold wlStep; simp only; split <;> simp
    rw [List.length_cons]; omega

theorem cntZ_set {m : List Int} {i : Nat} (hi : i < m.length) (x : Int) : cntZ (m.set i x) + (if m.getD i 0 ≤ 0 then 1 else 0) = cntZ m + (if x ≤ 0 then 1 else 0) := by
  induction m generalizing i with
  | nil => simp at hi
  | cons y m ih =>
    cases i with
    | zero => simp only [cntZ, List.set_cons_zero, List.countP_cons, List.getD_cons_zero, decide_eq_true_eq]; omega
    | succ i =>
      have := ih (i := i) (by simpa using hi)
      simp only [cntZ, List.set_cons_succ, List.countP_cons, List.getD_cons_succ] at this ⊢
      omega

theorem wlStep_cnt {hs : List Int} {s : List Int × List Int} {i : Int} (hi : 0 ≤ i ∧ i < s.1.length) : (wlStep hs s i).2.length + cntZ s.1 ≤ s.2.length + cntZ (wlStep hs s i).1 := by
  have h := cntZ_set (m := s.1) (i := i.toNat) (by omega) (s.1.getD i.toNat 0 - 1)
  unfold wlStep
  simp only
  split
  · rename_i h0
    rw [if_neg (by omega), if_pos (by omega)] at h
    rw [List.length_append, List.length_singleton]; omega
  · split at h <;> split at h <;> omega
theorem wlIn_cnt {hs : List Int} : ∀ (is : List Int) (s : List Int × List Int), (∀ i ∈ is, 0 ≤ i ∧ i < s.1.length) → (wlIn hs s is).2.length + cntZ s.1 ≤ s.2.length + cntZ (wlIn hs s is).1
  | [], _, _ => Nat.le_refl _
  | i :: is, s, hi => by
    have h1 := wlStep_cnt (hs := hs) (hi i (by simp))
    have h2 := wlIn_cnt (hs := hs) is (wlStep hs s i) (by rw [wlStep_len]; exact fun y hy => hi y (by simp [hy]))
    show (wlIn hs (wlStep hs s i) is).2.length + cntZ s.1 ≤ s.2.length + cntZ (wlIn hs (wlStep hs s i) is).1
    omega

/-- How many entries wait for what does not follow yet. -/
def restW : List (List Int) → List Bool → Nat
  | w :: ws, b :: fs => (if b = true then 0 else w.length) + restW ws fs
  | _, _ => 0
theorem restW_set : ∀ (ws : List (List Int)) (F : List Bool) (a : Nat), a < F.length → a < ws.length → F.getD a false = false → restW ws (F.set a true) + (ws.getD a []).length = restW ws F
  | w :: ws, b :: fs, 0, _, _, h => by simp at h; subst h; simp [restW]; omega
  | w :: ws, b :: fs, a + 1, h1, h2, h => by
    have := restW_set ws fs a (by simpa using h1) (by simpa using h2) (by simpa using h)
    simp only [List.set_cons_succ, restW, List.getD_cons_succ]; omega
  | [], _, _, _, h2, _ => by simp at h2
  | _, [], _, h1, _, _ => by simp at h1

structure WL (n : Nat) (rs : List Rule) (ws : List (List Int)) (F : List Bool) (M T : List Int) : Prop where
  flen : F.length = n
  mlen : M.length = rs.length
  mis : ∀ (i : Nat) (h : i < rs.length), M.getD i 0 = ((rs[i].pos.countP fun p => !(F.getD p.toNat false) : Nat) : Int)
  zero : ∀ (i : Nat) (h : i < rs.length), M.getD i 0 = 0 → F.getD rs[i].head.toNat false = true ∨ rs[i].head ∈ T
  tfol : ∀ x ∈ T, Fol rs x ∧ 0 ≤ x ∧ x < n
  ffol : ∀ a : Nat, F.getD a false = true → Fol rs (a : Int)
  tlen : T.length ≤ cntZ M

theorem WL.start {n : Nat} {rs : List Rule} {s : LS} (hg : ∀ r ∈ rs, GoodR n r) (h : LSok n rs rs.length s) : WL n rs s.waits (List.replicate n false) s.missing s.todo := by
  have hrep : ∀ (a : Nat), (List.replicate n false).getD a false = false := by
    intro a; rw [List.getD_eq_getElem?_getD, List.getElem?_replicate]; split <;> rfl
  have hm : ∀ (i : Nat) (hi : i < rs.length), s.missing.getD i 0 = (rs[i].pos.length : Int) := fun i hi => by rw [h.miss i hi, if_pos hi]
  refine ⟨by simp, h.mlen, fun i hi => ?_, fun i hi h0 => ?_, fun x hx => ?_, fun a ha => ?_, ?_⟩
  · rw [hm i hi]; simp only [hrep]; simp
  · right
    rw [hm i hi] at h0
    exact (h.todo _).2 ⟨rs[i], by rw [List.take_length]; exact List.getElem_mem hi, List.eq_nil_of_length_eq_zero (by omega), rfl⟩
  · obtain ⟨r, h1, h2, rfl⟩ := (h.todo x).1 hx
    rw [List.take_length] at h1
    exact ⟨.mk r h1 (fun _ _ h => h) (by rw [h2]; simp), (hg r h1).head⟩
  · rw [hrep] at ha; simp at ha
  · rw [h.tlen, List.take_length]
    have : s.missing = rs.map fun r => (r.pos.length : Int) := by
      apply List.ext_getElem (by rw [h.mlen, List.length_map])
      intro i h1 h2
      have h3 := hm i (by rw [← h.mlen]; exact h1)
      rw [List.getD_eq_getElem?_getD, List.getElem?_eq_getElem h1] at h3
      simp only [List.getElem_map]; exact h3
    rw [this, cntZ, List.countP_map]
    refine List.countP_mono_left fun r _ hr => ?_
    simp only [Function.comp_apply, decide_eq_true_eq]
    simp at hr; simp [hr]

theorem WL.skip {n : Nat} {rs : List Rule} {ws : List (List Int)} {F : List Bool} {M T : List Int} {a : Int} (h : WL n rs ws F M (T ++ [a])) (ha : F.getD a.toNat false = true) : WL n rs ws F M T := by
  refine ⟨h.flen, h.mlen, h.mis, fun i hi h0 => ?_, fun x hx => h.tfol x (List.mem_append_left _ hx), h.ffol, ?_⟩
  · rcases h.zero i hi h0 with h1 | h1
    · exact .inl h1
    · rcases List.mem_append.1 h1 with h1 | h1
      · exact .inr h1
      · rw [List.mem_singleton] at h1; rw [h1]; exact .inl ha
  · have := h.tlen; rw [List.length_append] at this; omega

theorem countP_drop {l : List Int} {p q : Int → Bool} {a : Int} (h : ∀ x ∈ l, p x = (q x || x == a)) (hq : q a = false) : l.countP p = l.countP q + l.count a := by
  induction l with
  | nil => simp
  | cons x l ih =>
    have h1 := h x (by simp)
    rw [List.countP_cons, List.countP_cons, List.count_cons, ih fun y hy => h y (by simp [hy]), h1]
    by_cases hx : x = a
    · subst hx; simp [hq]; omega
    · have : (x == a) = false := by rw [beq_eq_false_iff_ne]; exact hx
      rw [this]; simp; omega

theorem WL.mark {n : Nat} {rs : List Rule} {s : LS} {F : List Bool} {M T : List Int} {a : Int} (hg : ∀ r ∈ rs, GoodR n r) (hs : LSok n rs rs.length s)
    (h : WL n rs s.waits F M (T ++ [a])) (ha : F.getD a.toNat false = false) :
    WL n rs s.waits (F.set a.toNat true) (wlIn (rs.map Rule.head) (M, T) (s.waits.getD a.toNat [])).1 (wlIn (rs.map Rule.head) (M, T) (s.waits.getD a.toNat [])).2 := by
  obtain ⟨hfa, ha0, han⟩ := h.tfol a (by simp)
  have hac : ((a.toNat : Nat) : Int) = a := by omega
  have hal : a.toNat < F.length := by rw [h.flen]; omega
  have hmem : ∀ i ∈ s.waits.getD a.toNat [], 0 ≤ i ∧ i < ((M, T) : List Int × List Int).1.length := by
    intro i hi
    obtain ⟨j, hj, rfl⟩ := hs.wmem _ i hi
    exact ⟨by omega, by show (j : Int) < M.length; rw [h.mlen]; omega⟩
  have hset : ∀ x : Nat, (F.set a.toNat true).getD x false = if a.toNat = x then true else F.getD x false := fun x => getD_set _ _ _ _ _ hal
  have hat := wlIn_at (rs.map Rule.head) (s.waits.getD a.toNat []) (M, T) hmem
  have hcnt : ∀ (i : Nat) (hi : i < rs.length), (s.waits.getD a.toNat []).count (i : Int) = rs[i].pos.count a := by
    intro i hi
    rw [hs.wcnt a.toNat i hi (by omega), if_pos hi, hac]
  have hmis : ∀ (i : Nat) (hi : i < rs.length), (rs[i].pos.countP fun p => !(F.getD p.toNat false)) = (rs[i].pos.countP fun p => !((F.set a.toNat true).getD p.toNat false)) + rs[i].pos.count a := by
    intro i hi
    refine countP_drop (fun x hx => ?_) (by rw [hset, if_pos rfl]; rfl)
    have hx0 := ((hg _ (List.getElem_mem hi)).pos x hx).1
    rw [hset]
    by_cases hxa : x = a
    · subst hxa; rw [ha]; simp
    · have h1 : (x == a) = false := by rw [beq_eq_false_iff_ne]; exact hxa
      rw [if_neg (by omega), h1]; simp
  have hhs : ∀ (i : Nat) (hi : i < rs.length), (rs.map Rule.head).getD i 0 = rs[i].head := by
    intro i hi; rw [List.getD_eq_getElem?_getD, List.getElem?_eq_getElem (by simpa using hi)]; simp
  have hmis' : ∀ (i : Nat) (hi : i < rs.length), (wlIn (rs.map Rule.head) (M, T) (s.waits.getD a.toNat [])).1.getD i 0 = ((rs[i].pos.countP fun p => !((F.set a.toNat true).getD p.toNat false) : Nat) : Int) := by
    intro i hi
    have h1 := h.mis i hi
    have h2 := hmis i hi
    rw [hat i, hcnt i hi]
    show M.getD i 0 - _ = _
    rw [h1]; omega
  have hff : ∀ b : Nat, (F.set a.toNat true).getD b false = true → Fol rs (b : Int) := by
    intro b hb
    rw [hset] at hb
    split at hb
    · rename_i h1; rw [← h1, hac]; exact hfa
    · exact h.ffol b hb
  refine ⟨by simp [h.flen], by rw [wlIn_len]; exact h.mlen, hmis', fun i hi h0 => ?_, fun x hx => ?_, hff, ?_⟩
  · have h1 := hat i
    rw [h0] at h1
    have h1 : (0 : Int) = M.getD i 0 - ((s.waits.getD a.toNat []).count (i : Int) : Int) := h1
    by_cases h2 : M.getD i 0 = 0
    · rcases h.zero i hi h2 with h3 | h3
      · left; rw [hset]; split
        · rfl
        · exact h3
      · rcases List.mem_append.1 h3 with h3 | h3
        · exact .inr (wlIn_old _ _ h3)
        · rw [List.mem_singleton] at h3
          left; rw [hset, h3, if_pos rfl]
    · right
      have h4 := wlIn_hit (hs := rs.map Rule.head) (s.waits.getD a.toNat []) (M, T) hmem i (by show 0 < M.getD i 0; rw [h.mis i hi] at h2 ⊢; omega) (by show M.getD i 0 ≤ _; omega)
      rwa [hhs i hi] at h4
  · rcases wlIn_new (s.waits.getD a.toNat []) (M, T) hmem hx with h1 | ⟨j, h1, h2, h3⟩
    · exact h.tfol x (List.mem_append_left _ h1)
    · have hj : j < rs.length := by have := (hmem _ h1).2; have h4 : ((M, T) : List Int × List Int).1.length = rs.length := h.mlen; omega
      have h4 := hmis' j hj
      rw [hat j] at h4
      have h5 : M.getD j 0 ≤ ((s.waits.getD a.toNat []).count (j : Int) : Int) := h3
      have h6 : M.getD j 0 - ((s.waits.getD a.toNat []).count (j : Int) : Int) = ((rs[j].pos.countP fun p => !((F.set a.toNat true).getD p.toNat false) : Nat) : Int) := h4
      have h7 : rs[j].pos.countP (fun p => !((F.set a.toNat true).getD p.toNat false)) = 0 := by omega
      have hgj := hg _ (List.getElem_mem hj)
      rw [hhs j hj] at h2
      subst h2
      refine ⟨.mk rs[j] (List.getElem_mem hj) (fun _ _ h => h) (fun p hp => ?_), hgj.head⟩
      have h8 := List.countP_eq_zero.1 h7 p hp
      have hp0 := (hgj.pos p hp).1
      have h9 := hff p.toNat (by simpa using h8)
      have : ((p.toNat : Nat) : Int) = p := by omega
      rwa [this] at h9
  · have h1 := wlIn_cnt (hs := rs.map Rule.head) (s.waits.getD a.toNat []) (M, T) hmem
    have h2 := h.tlen
    rw [List.length_append, List.length_singleton] at h2
    have h3 : (wlIn (rs.map Rule.head) (M, T) (s.waits.getD a.toNat [])).2.length + cntZ M ≤ T.length + cntZ (wlIn (rs.map Rule.head) (M, T) (s.waits.getD a.toNat [])).1 := h1
    omega

theorem WL.done {g : Prog} {ws : List (List Int)} {F : List Bool} {M : List Int} (hg : GoodP g) (h : WL g.atoms.length g.rules ws F M []) : F = followsL g := by
  have hl : (followsL g).length = g.atoms.length := followsL_len
  apply List.ext_getElem (by rw [h.flen, hl])
  intro i h1 h2
  have h3 := follows_iff hg (a := (i : Int)) (by omega)
  rw [Int.toNat_natCast] at h3
  have key : F.getD i false = true ↔ (followsL g).getD i false = true := by
    rw [h3]
    refine ⟨h.ffol i, fun hf => ?_⟩
    have : ∀ a : Int, Fol g.rules a → 0 ≤ a → F.getD a.toNat false = true := by
      intro a ha
      induction ha with
      | mk r hr _ hp ih =>
        intro _
        obtain ⟨j, hj, rfl⟩ := List.mem_iff_getElem.1 hr
        have hm : M.getD j 0 = 0 := by
          rw [h.mis j hj]
          have : (g.rules[j].pos.countP fun p => !(F.getD p.toNat false)) = 0 := List.countP_eq_zero.2 fun p hp' => by
            rw [ih p hp' ((hg.rules _ hr).pos p hp').1]; simp
          omega
        rcases h.zero j hj hm with h4 | h4
        · exact h4
        · simp at h4
    have := this _ hf (by omega)
    rwa [Int.toNat_natCast] at this
  rw [List.getD_eq_getElem?_getD, List.getD_eq_getElem?_getD, List.getElem?_eq_getElem h1, List.getElem?_eq_getElem h2] at key
  simp only [Option.getD_some] at key
  exact Bool.eq_iff_iff.2 key

/-! ### The rows of a state -/
def factsL (g : Prog) : List Bool := (List.range g.atoms.length).map fun (a : Nat) => factB g (a : Int)
def hasL (g : Prog) : List Bool := (List.range g.atoms.length).map fun (a : Nat) => rulesB g (a : Int)
theorem LSok.facts {g : Prog} {s : LS} (h : LSok g.atoms.length g.rules g.rules.length s) : s.fact = factsL g := by
  apply List.ext_getElem (by rw [h.flen]; simp [factsL])
  intro i h1 h2
  have := h.fact i
  rw [List.getD_eq_getElem?_getD, List.getElem?_eq_getElem h1, List.take_length] at this
  simp only [factsL, List.getElem_map, List.getElem_range]
  exact this
theorem LSok.has {g : Prog} {s : LS} (h : LSok g.atoms.length g.rules g.rules.length s) : s.rules = hasL g := by
  apply List.ext_getElem (by rw [h.rlen]; simp [hasL])
  intro i h1 h2
  have := h.rules i
  rw [List.getD_eq_getElem?_getD, List.getElem?_eq_getElem h1, List.take_length] at this
  simp only [hasL, List.getElem_map, List.getElem_range]
  exact this
end Go.Proofs.Ytdbennmbbmoflaa
