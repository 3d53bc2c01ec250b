/-
  Layer 18, the program: look.
-/
import Derived.Test.YtdbennmbbmoflaaPrB
import Derived.Deep.Cut
import Derived.Deep.CutRange
import Derived.Deep.DeepCutAuto
import Derived.Deep.RegionHeld3
namespace Go.Proofs.Ytdbennmbbmoflaa
open Go Go.RowKit

theorem infoSeqI : (Try.prog.info? 24).map (fun i => (i.zero, i.size, i.bytes)) = some (some (.slice none 0 0), 1, 24) := by kernel_rfl

set_option maxHeartbeats 20000000 in
set_option maxRecDepth 100000 in
theorem look_spec {S : Nat → Prop} {w : World} {v : Value} {g : Prog} (hg : ProgV S w v g) (hgood : FineP g) :
    Calls Try.prog 28 #[v] w (Ret (fun o w' => StateV (Fr S w) w' o g) w) := by
  obtain ⟨va, vb, rfl, hga, hgr⟩ := hg
  obtain ⟨aa, ac, rfl, -⟩ := id hga
  obtain ⟨ra, rc, rfl, -, -, hrl, -, hr5⟩ := id hgr
  have hal := hgood.alen
  have hrsm := hgood.rsm
  have hgr' : ∀ r ∈ g.rules, GoodR g.atoms.length r := hgood.rules
  have hps : ∀ r ∈ g.rules, r.pos.length ≤ 100000 := hgood.psm
  obtain ⟨rs, hrs⟩ : ∃ rs, rs = g.rules := ⟨_, rfl⟩
  obtain ⟨n, hn⟩ : ∃ n, n = g.atoms.length := ⟨_, rfl⟩
  have hfin : Hid (rs = g.rules ∧ n = g.atoms.length) := Lib.hid ⟨hrs, hn⟩
  have Hga := Lib.hid hga
  have Hgr := Lib.hid hgr
  rw [← hrs] at hrl hr5 hrsm hgr' hps ⊢
  rw [← hn] at hal hgr' ⊢
  clear hrs hn hga hgr
  have hmk := run_make_row' (P := Try.prog) 52 4 (.bool false) 1 Try.underlying52 infoBool' rfl .i64 .i64 n (by omega) (by omega)
  go_enter Try.func28, Try.ntmps28
  go_upto_region 2 with fail
  go_cut [4] (fun s4 wx => ∃ Bs B1 B2 B3, s4 = .pointer (some ⟨Bs, 0, none⟩) ∧ Made4 (w.heap.size + 1 + 1) n (.slice aa n ac) (.slice ra rs.length rc) wx Bs B1 B2 B3 ∧ Below (w.heap.size + 1 + 1) ((w.alloc (Obj.cells #[Value.slice aa n ac, Value.slice ra rs.length rc] 30)).alloc (Obj.cells #[Value.slice none 0 0, Value.slice none 0 0, Value.slice none 0 0, Value.slice none 0 0, Value.slice none 0 0] 57)) wx)
  case first =>
    go_region_held3 (fun w' => w'.cell? ⟨w.heap.size, 0, none⟩ = some (.slice aa n ac) ∧ w'.cell? ⟨w.heap.size, 1, none⟩ = some (.slice ra rs.length rc))
      (first | (go_simp; done) | go_keep)
      (fail)
    all_goals go_wp2_with fail
    all_goals go_meet
    all_goals
      first
      | refine ⟨_, _, _, _, rfl, ⟨four_1 ?_, RowB.of ?_, RowB.of ?_, RowB.of ?_, ?_, ?_⟩, Seq.way⟩
      | refine ⟨_, _, _, _, rfl, ⟨four_2 ?_, RowB.of ?_, RowB.of ?_, RowB.of ?_, ?_, ?_⟩, Seq.way⟩
      | refine ⟨_, _, _, _, rfl, ⟨four_3 ?_, RowB.of ?_, RowB.of ?_, RowB.of ?_, ?_, ?_⟩, Seq.way⟩
      | refine ⟨_, _, _, _, rfl, ⟨four_4 ?_, RowB.of ?_, RowB.of ?_, RowB.of ?_, ?_, ?_⟩, Seq.way⟩
    all_goals first | (simp; done) | (refine four_1 ?_; (simp; done)) | (refine four_2 ?_; (simp; done)) | (refine four_3 ?_; (simp; done)) | (refine four_4 ?_; (simp; done)) | omega

  case rest =>
    clear hmk
    obtain ⟨Bs, B1, B2, B3, rfl, HM, HB⟩ := hcut
    have hmk1 := run_make_row' (P := Try.prog) 24 3 (.int .i64 0) 8 Try.underlying24 infoInt rfl .i64 .i64 rs.length (by omega) (by omega)
    have hmk2 := run_make_row' (P := Try.prog) 85 24 (.slice none 0 0) 24 Try.underlying85 infoSeqI rfl .i64 .i64 n (by omega) (by omega)
    have c1 : wc.cell? ⟨w.heap.size, 1, none⟩ = some (.slice ra rs.length rc) := by rw [HB.cell (by simp; omega)]; go_simp
    have hsz : w.heap.size + 1 + 1 ≤ wc.heap.size := by simpa using HB.size
    obtain ⟨w1, rfl⟩ : ∃ w1, w1 = wc := ⟨_, rfl⟩
    go_upto_region 3 with fail
    go_cut [5, 6] (fun s5 s6 wx => ∃ Bm Bw, s5 = .slice (some ⟨Bm, 0, none⟩) rs.length rs.length ∧ s6 = .slice (some ⟨Bw, 0, none⟩) n n ∧ RowI 3 wx Bm (List.replicate rs.length 0) ∧ Row 24 wx Bw (List.replicate n (.slice none 0 0)) ∧ Below w1.heap.size w1 wx ∧ Bm ≠ Bw ∧ w1.heap.size ≤ Bm ∧ w1.heap.size ≤ Bw)
    case first =>
      go_region_held3 (fun w' => w'.cell? ⟨w.heap.size, 1, none⟩ = some (.slice ra rs.length rc))
        (first | (go_simp; done) | go_keep)
        (fail)
      all_goals go_wp2_with fail
      all_goals go_meet
      · exact ⟨_, _, rfl, rfl, RowI.of (two_1 rfl), Row.ofS (two_2 rfl), Seq.way, by omega, by omega, by omega⟩
      · exact ⟨_, _, rfl, rfl, RowI.of (two_2 rfl), Row.ofS (two_1 rfl), Seq.way, by omega, by omega, by omega⟩
    case rest =>
      obtain ⟨Bm, Bw, rfl, rfl, HI, HW, HB2, hmw, hlm, hlw⟩ := hcut
      clear hmk1 hmk2 c1
      obtain ⟨base, hbase⟩ : ∃ base, base = wc.heap.size := ⟨_, rfl⟩
      have hHs := HB2.size
      have L : LookB (w.heap.size + 1) base Bs B1 B2 B3 Bm Bw := by
        have h1 := Row.lt HM.st
        have h2 := Row.lt HM.f
        have h3 := Row.lt HM.r
        have h4 := Row.lt HM.fo
        have h5 := Row.lt HI
        have h6 := HW.lt
        have h7 := HM.ne
        have h8 := HM.lo
        subst hbase
        constructor <;> omega
      obtain ⟨Wp, hWp⟩ : ∃ Wp, Wp = (w.alloc (Obj.cells #[Value.slice aa n ac, Value.slice ra rs.length rc] 30)).alloc (Obj.cells #[Value.slice none 0 0, Value.slice none 0 0, Value.slice none 0 0, Value.slice none 0 0, Value.slice none 0 0] 57) := ⟨_, rfl⟩
      rw [← hWp] at HB
      have H0 : LookM (w.heap.size + 1) base n (.slice aa n ac) (.slice ra rs.length rc) Wp Bs B1 B2 B3 Bm Bw (fun _ => True) wc (lsTo n rs 0).fact (lsTo n rs 0).rules (List.replicate n false) (lsTo n rs 0).missing (lsTo n rs 0).waits (.slice none 0 0) (lsTo n rs 0).todo :=
        ⟨Row.below HM.st HB2 (Row.lt HM.st), RowB.below HM.f HB2 (Row.lt HM.f), RowB.below HM.r HB2 (Row.lt HM.r), RowB.below HM.fo HB2 (Row.lt HM.fo), HI, ⟨_, HW, Fam.nil _ _ _ (n + 1)⟩, HB.trans (HB2.mono hsz), by rw [hWp]; simp⟩
      have hWw : Below w.heap.size w Wp := by rw [hWp]; exact Seq.way
      have d1 : Wp.cell? ⟨w.heap.size, 1, none⟩ = some (.slice ra rs.length rc) := by rw [hWp]; go_simp
      have hWs := Lib.hid (show Wp.heap.size = w.heap.size + 1 + 1 by rw [hWp]; simp)
      have d2 : Row 57 Wp (w.heap.size + 1) [Value.slice none 0 0, Value.slice none 0 0, Value.slice none 0 0, Value.slice none 0 0, Value.slice none 0 0] := by rw [hWp]; exact Row.new _ _ _ (by simp)
      have hbe := Lib.hid hbase
      have hbw : base ≤ wc.heap.size := by omega
      clear hWp hbase HM HI HW HB2 HB
      have c1 := (H0.bel.cell (p := ⟨w.heap.size, 1, none⟩) (by simp; omega)).trans d1
      go_wp2_with fail
      go_loopw [7, 35] (fun tv i wr => ∃ k : Nat, k ≤ rs.length ∧ i = .int .i64 k ∧ LookM (w.heap.size + 1) base n (.slice aa n ac) (.slice ra rs.length rc) Wp Bs B1 B2 B3 Bm Bw (fun _ => True) wr (lsTo n rs k).fact (lsTo n rs k).rules (List.replicate n false) (lsTo n rs k).missing (lsTo n rs k).waits tv (lsTo n rs k).todo ∧ base ≤ wr.heap.size) (fun _ i _ => rs.length - (intOf i).toNat)
      case atStart => exact ⟨0, Nat.zero_le _, rfl, H0, hbw⟩
      case round =>
        clear H0 hbw c1 hHs hlm hlw hsz
        obtain ⟨k, hk, rfl, HM, hbs⟩ := hrel
        have ok := lsTo_ok hgr' hps k hk
        by_cases hlt : k < rs.length
        · have hnx := Lib.hid (lsTo_succ n rs k hlt)
          obtain ⟨s, hs⟩ : ∃ s, s = lsTo n rs k := ⟨_, rfl⟩
          rw [← hs] at HM ok
          have Hs := Lib.hid hs
          clear hs
          have hgk := hgr' rs[k] (List.getElem_mem hlt)
          have hpk := hps rs[k] (List.getElem_mem hlt)
          have hwr := hWw.trans (HM.bel.mono (by omega))
          obtain ⟨rb, ro, pa, pc, na, nc, rfl, hSb, hbb, g0, g1, g2, hok, hp, -⟩ := hr5.rule hlt
          have h0 := (hwr.cell (p := ⟨rb, ro + k * 3, none⟩) hbb).trans g0
          have h1 := (hwr.cell (p := ⟨rb, ro + k * 3 + 1, none⟩) hbb).trans g1
          have h2 := (hwr.cell (p := ⟨rb, ro + k * 3 + 2, none⟩) hbb).trans g2
          obtain ⟨pa', pc', hpe, -, -, hpl, -, hpa⟩ := hp
          simp only [Value.slice.injEq] at hpe
          obtain ⟨rfl, -, rfl⟩ := hpe
          have hsz := HM.lt
          obtain ⟨r, hr⟩ : ∃ r, r = rs[k] := ⟨_, rfl⟩
          have hrk := Lib.hid hr
          rw [← hr] at h0 h1 h2 hok hgk hpk hpl hpa
          clear hr hr5 g0 g1 g2
          obtain ⟨tao, tcap, rfl, htl⟩ : ∃ tao tcap, u7 = .slice tao s.todo.length tcap ∧ s.todo.length ≤ tcap := by
            obtain ⟨vs, q1, q2⟩ := HM.fam
            obtain ⟨ao, cap, q3, q4, -⟩ := (q2.2.1 0 _ _ rfl rfl).shape
            exact ⟨ao, cap, q3, q4⟩
          have c2 : wr.cell? ⟨Bs, 3, none⟩ = some (.slice (some ⟨B2, 0, none⟩) n n) := Row.cell HM.st (j := 3) (by simp)
          have hh0 : 0 ≤ r.head := hgk.head.1
          have hh1 : r.head < (n : Int) := hgk.head.2
          have c3 := RowB.cell HM.r (j := r.head.toNat) (by rw [ok.rlen]; omega)
          have c4 := RowB.frozen HM.r r.head.toNat
          have c5 := RowI.cell HM.mi (j := k) (by rw [ok.mlen]; exact hlt)
          have c6 := RowI.frozen HM.mi k
          have L1 := L.n2m
          have L2 := L.s2
          have L3 := L.sm
          obtain ⟨w2, rfl⟩ : ∃ w2, w2 = wr := ⟨_, rfl⟩
          go_wp2_with fail
          have H1 := (((HM.setR L r.head.toNat true).setM L k r.pos.length).mem (Q := fun b => b ≠ w2.heap.size) (fun b hb _ => by simp at hb; omega)).alloc (.cells #[.int .i64 r.head, .slice pa r.pos.length pc, .slice na r.neg.length nc] 46)
          have R1 : Row 46 (((w2.setCell ⟨B2, r.head.toNat, none⟩ (.bool true)).setCell ⟨Bm, k, none⟩ (.int .i64 r.pos.length)).alloc (.cells #[.int .i64 r.head, .slice pa r.pos.length pc, .slice na r.neg.length nc] 46)) w2.heap.size [.int .i64 r.head, .slice pa r.pos.length pc, .slice na r.neg.length nc] := Row.new _ _ _ (by simp)
          clear c2 c3 c4 c5 c6 L1 L2 L3 h0 h1 h2
          go_loopw [54] (fun i wx => ∃ m : Nat, m ≤ r.pos.length ∧ i = .int .i64 m ∧ LookM (w.heap.size + 1) base n (.slice aa n ac) (.slice (some ⟨rb, ro, none⟩) rs.length rc) Wp Bs B1 B2 B3 Bm Bw (fun b => b ≠ w2.heap.size) wx s.fact (s.rules.set r.head.toNat true) (List.replicate n false) (s.missing.set k r.pos.length) (wPos k s.waits (r.pos.take m)) (.slice tao s.todo.length tcap) s.todo ∧ Row 46 wx w2.heap.size [.int .i64 r.head, .slice pa r.pos.length pc, .slice na r.neg.length nc] ∧ w2.heap.size < wx.heap.size) (fun i _ => r.pos.length - (intOf i).toNat)
          case atStart => exact ⟨0, Nat.zero_le _, rfl, H1, R1, by simp⟩
          case round =>
            clear H1 R1
            obtain ⟨m, hm, rfl, HX, RX, hbx⟩ := hrel
            have hwx := hWw.trans (HX.bel.mono (by omega))
            have hnb : w2.heap.size ≠ Bw := by have := hsz.2.2.2.2.2.2; omega
            by_cases hlm : m < r.pos.length
            · obtain ⟨b', off', rfl, hS', hb', hc', -⟩ := hpa.int hlm
              have hc := (hwx.cell (p := ⟨b', off' + m, none⟩) hb').trans hc'
              have hx := hgk.pos _ (List.getElem_mem hlm)
              have hx0 : 0 ≤ r.pos[m] := hx.1
              have hx1 : r.pos[m] < (n : Int) := hx.2
              have hwl : (wPos k s.waits (r.pos.take m)).length = n := by rw [wPos_len, ok.wlen]
              have hsn := Lib.hid (wPos_snoc k s.waits r.pos m hlm)
              obtain ⟨vs, q1, q2⟩ := HX.fam
              have hvl : vs.length = n := by have := q2.1; simp at this; omega
              obtain ⟨vx, hvx⟩ : ∃ vx, vs[(r.pos[m]).toNat]? = some vx := by rw [List.getElem?_eq_getElem (by omega : (r.pos[m]).toNat < vs.length)]; exact ⟨_, rfl⟩
              obtain ⟨lx, hlx⟩ : ∃ lx, (wPos k s.waits (r.pos.take m))[(r.pos[m]).toNat]? = some lx := by rw [List.getElem?_eq_getElem (by omega : (r.pos[m]).toNat < (wPos k s.waits (r.pos.take m)).length)]; exact ⟨_, rfl⟩
              have hown : Own intE (fun _ => False) base 3 wr vx lx := q2.2.1 ((r.pos[m]).toNat + 1) vx lx hvx hlx
              have hP : vx.ownBlock ≠ some w2.heap.size := fun h => q2.2.2.1 ((r.pos[m]).toNat + 1) vx _ hvx h rfl
              have hll : lx.length ≤ 1000000000000 := by
                have h1 := wPos_ll (i := k) (ws := s.waits) (l := r.pos.take m) (by rw [ok.wlen]; exact fun x hx => hgk.pos x (List.mem_of_mem_take hx)) hlx
                have h2 := ok.wll (r.pos[m]).toNat
                have h3 : (r.pos.take m).length ≤ 100000 := by rw [List.length_take]; omega
                omega
              have hset : wOne k (wPos k s.waits (r.pos.take m)) r.pos[m] = (wPos k s.waits (r.pos.take m)).set (r.pos[m]).toNat (lx ++ [(k : Int)]) := by
                unfold wOne; rw [List.getD_eq_getElem?_getD, hlx]; rfl
              have Hset := Lib.hid hset
              clear hset
              have cw : wr.cell? ⟨Bw, (r.pos[m]).toNat, none⟩ = some vx := by
                rw [q1.cell (j := (r.pos[m]).toNat) (by omega)]
                rw [← hvx, List.getElem?_eq_getElem (by omega : (r.pos[m]).toNat < vs.length)]
              have HXh := Lib.hid HX
              have hvxh := Lib.hid hvx
              have hlxh := Lib.hid hlx
              obtain ⟨vao, vcap, rfl, -⟩ := hown.shape
              have cb1 : wr.cell? ⟨w2.heap.size, 1, none⟩ = some (.slice (some ⟨b', off', none⟩) r.pos.length pc) := RX.cell (j := 1) (by simp)
              clear hvx hlx HX
              go_wp2_with (at_builtin; refine wpList_app_int rfl _ _ 24 rfl Try.underlying24 infoInt rfl hown rfl (y := (k:Int)) Seq.way ?_ ?_ ?_ ?_ ?_)
              · exact ⟨by omega, by omega⟩
              · go_simp
              · omega
              · omega
              · intro ao' cap' w' hown' hkept
                have hb' := (Seq.way (w := wr) (w' := wr.alloc (.cells #[.int .i64 k] 3)) (B := base)).trans hkept.below
                have cw' := (q1.below hb' L.hi.2.2.2.2.2).cell (j := (r.pos[m]).toNat) (by omega)
                have fw' := (q1.below hb' L.hi.2.2.2.2.2).frozen (r.pos[m]).toNat
                have HN := Lib.hid (HXh.out.appW L q1 q2 (w := wr.alloc (.cells #[.int .i64 k] 3)) Seq.way hvxh.out hown' hkept (by simp; omega) (by omega))
                have RN := (RX.alloc (.cells #[.int .i64 k] 3)).at (hkept.keep _ (by simp; omega) hP)
                clear hown cw cb1
                go_wp2_with fail
                go_roundw
                case rel =>
                  refine ⟨m + 1, hlm, by go_num, ?_, RN.setOther _ hnb.symm, ?_⟩
                  · rw [hsn.out, Hset.out]; exact HN.out
                  · have := hb'.size; simp; omega
                case measure => simp [intOf]; omega
            · obtain rfl : m = r.pos.length := by omega
              rw [List.take_length] at HX
              have cb0 : wr.cell? ⟨w2.heap.size, 0, none⟩ = some (.int .i64 r.head) := RX.cell (j := 0) (by simp)
              have cb1 : wr.cell? ⟨w2.heap.size, 1, none⟩ = some (.slice pa r.pos.length pc) := RX.cell (j := 1) (by simp)
              have hsx := HX.lt
              by_cases hp0 : r.pos.length = 0
              · have hpb : ((r.pos.length : Int) == 0) = true := by simp [hp0]
                have Hp0 := Lib.hid hp0
                clear hp0
                have htb : s.todo.length ≤ 1000000000000 := by
                  have h1 := ok.tlen
                  have h2 := List.countP_le_length (p := fun r : Rule => r.pos.length == 0) (l := rs.take k)
                  rw [List.length_take] at h2
                  omega
                have hown : Own intE (fun _ => False) base 3 wr (.slice tao s.todo.length tcap) s.todo := by
                  obtain ⟨vs, q1, q2⟩ := HX.fam
                  exact q2.2.1 0 _ _ rfl rfl
                have hP : (Value.slice tao s.todo.length tcap).ownBlock ≠ some w2.heap.size := by
                  obtain ⟨vs, q1, q2⟩ := HX.fam
                  exact fun h => q2.2.2.1 0 _ _ rfl h rfl
                have HXh := Lib.hid HX
                clear HX
                go_wp2_with (at_builtin; refine wpList_app_int rfl _ _ 24 rfl Try.underlying24 infoInt rfl hown rfl (y := r.head) Seq.way ?_ ?_ ?_ ?_ ?_)
                · exact hok
                · go_simp
                · omega
                · omega
                · intro ao' cap' w' hown' hkept
                  have HT := HXh.out.appT L (w := wr.alloc (.cells #[.int .i64 r.head] 3)) Seq.way hown' hkept (by simp; omega) (by omega)
                  have hst := hkept.below.size
                  simp at hst
                  have RT := (RX.alloc (.cells #[.int .i64 r.head] 3)).at (hkept.keep _ (by simp; omega) hP)
                  have e0 : w'.cell? ⟨w2.heap.size, 0, none⟩ = some (.int .i64 r.head) := RT.cell (j := 0) (by simp)
                  have e2 : w'.cell? ⟨w2.heap.size, 2, none⟩ = some (.slice na r.neg.length nc) := RT.cell (j := 2) (by simp)
                  have e3 : w'.cell? ⟨Bs, 2, none⟩ = some (.slice (some ⟨B1, 0, none⟩) n n) := Row.cell HT.st (j := 2) (by simp)
                  have e4 := RowB.cell HT.f (j := r.head.toNat) (by rw [ok.flen]; omega)
                  have e5 := RowB.frozen HT.f r.head.toNat
                  have hgd : s.fact.getD r.head.toNat false = s.fact[r.head.toNat]'(by rw [ok.flen]; omega) := by
                    rw [List.getD_eq_getElem?_getD, List.getElem?_eq_getElem (by rw [ok.flen]; omega : r.head.toNat < s.fact.length)]; rfl
                  have HN := fun x => Lib.hid (HT.setF L r.head.toNat x)
                  have hq : ∀ x : Bool, (s.fact.getD r.head.toNat false || r.neg.length == 0) = x → Hid (LookM (w.heap.size + 1) base n (.slice aa n ac) (.slice (some ⟨rb, ro, none⟩) rs.length rc) Wp Bs B1 B2 B3 Bm Bw (fun _ => True) (w'.setCell ⟨B1, r.head.toNat, none⟩ (.bool x)) (lsTo n rs (k + 1)).fact (lsTo n rs (k + 1)).rules (List.replicate n false) (lsTo n rs (k + 1)).missing (lsTo n rs (k + 1)).waits (.slice ao' (s.todo.length + 1) cap') (lsTo n rs (k + 1)).todo) := by
                    intro x hx
                    rw [hnx.out, ← Hs.out, ← hrk.out]
                    unfold lsRule
                    simp only [if_pos Hp0.out, hx]
                    exact Lib.hid ((HN x).out.mem (fun _ _ _ => trivial))
                  have Hq := Lib.hid hq
                  clear hq
                  clear HN HT hown
                  cases hv : s.fact[r.head.toNat]'(by rw [ok.flen]; omega)
                  · rw [hv] at e4 hgd
                    by_cases hn0 : r.neg.length = 0
                    · have hnb0 : ((r.neg.length : Int) == 0) = true := by simp [hn0]
                      have hqq := Hq.out true (by rw [hgd]; simp [hn0])
                      clear hgd hn0 hv
                      go_wp2_with fail
                      go_still_tail 17, (by kernel_rfl)
                      go_wp2_with fail
                      go_roundw
                      case rel => exact ⟨k + 1, hlt, by go_num, (by first | exact hqq.out | exact hqq.out.drew), by first | (simp; omega) | omega⟩
                      case measure => simp [intOf]; omega
                    · have hnb0 : ((r.neg.length : Int) == 0) = false := by simpa using hn0
                      have hqq := Hq.out false (by rw [hgd]; simpa using hn0)
                      clear hgd hn0 hv
                      go_wp2_with fail
                      go_still_tail 17, (by kernel_rfl)
                      go_wp2_with fail
                      go_roundw
                      case rel => exact ⟨k + 1, hlt, by go_num, (by first | exact hqq.out | exact hqq.out.drew), by first | (simp; omega) | omega⟩
                      case measure => simp [intOf]; omega
                  · rw [hv] at e4 hgd
                    · have hqq := Hq.out true (by rw [hgd]; simp)
                      clear hgd hv
                      go_wp2_with fail
                      go_still_tail 17, (by kernel_rfl)
                      go_wp2_with fail
                      go_roundw
                      case rel => exact ⟨k + 1, hlt, by go_num, (by first | exact hqq.out | exact hqq.out.drew), by first | (simp; omega) | omega⟩
                      case measure => simp [intOf]; omega
              · have hpb : ((r.pos.length : Int) == 0) = false := by simpa using hp0
                have hqq : LookM (w.heap.size + 1) base n (.slice aa n ac) (.slice (some ⟨rb, ro, none⟩) rs.length rc) Wp Bs B1 B2 B3 Bm Bw (fun _ => True) wr (lsTo n rs (k + 1)).fact (lsTo n rs (k + 1)).rules (List.replicate n false) (lsTo n rs (k + 1)).missing (lsTo n rs (k + 1)).waits (.slice tao (lsTo n rs (k + 1)).todo.length tcap) (lsTo n rs (k + 1)).todo := by
                  rw [hnx.out, ← Hs.out, ← hrk.out]
                  unfold lsRule
                  simp only [if_neg hp0]
                  exact HX.mem (fun _ _ _ => trivial)
                have hqt : (lsTo n rs (k + 1)).todo.length = s.todo.length := by
                  rw [hnx.out, ← Hs.out, ← hrk.out]
                  unfold lsRule
                  simp only [if_neg hp0]
                rw [hqt] at hqq
                have hqq := Lib.hid hqq
                clear hp0 hqt HX
                go_wp2_with fail
                go_roundw
                case rel => exact ⟨k + 1, hlt, by go_num, hqq.out, by omega⟩
                case measure => simp [intOf]; omega

        · obtain rfl : k = rs.length := by omega
          have HW0 := Lib.hid (WL.start hgr' ok)
          have hmeas := Lib.hid (Nat.lt_succ_self ((lsTo n rs rs.length).todo.length + restW (lsTo n rs rs.length).waits (List.replicate n false)))
          obtain ⟨s, hs⟩ : ∃ s, s = lsTo n rs rs.length := ⟨_, rfl⟩
          rw [← hs] at HM ok HW0 hmeas
          have Hs := Lib.hid hs
          clear hs hlt hk
          obtain ⟨w2, rfl⟩ : ∃ w2, w2 = wr := ⟨_, rfl⟩
          obtain ⟨tao, tcap, rfl, htl⟩ : ∃ tao tcap, u7 = .slice tao s.todo.length tcap ∧ s.todo.length ≤ tcap := by
            obtain ⟨vs, q1, q2⟩ := HM.fam
            obtain ⟨ao, cap, q3, q4, -⟩ := (q2.2.1 0 _ _ rfl rfl).shape
            exact ⟨ao, cap, q3, q4⟩
          go_wp2_with fail
          go_loopg [7] (s.todo.length + restW s.waits (List.replicate n false) + 1) (fun q tv wr => ∃ F M T, LookM (w.heap.size + 1) base n (.slice aa n ac) (.slice ra rs.length rc) Wp Bs B1 B2 B3 Bm Bw (fun _ => True) wr s.fact s.rules F M s.waits tv T ∧ Hid (WL n rs s.waits F M T) ∧ T.length + restW s.waits F < q ∧ base ≤ wr.heap.size)
          case atStart => exact ⟨_, _, _, HM, HW0, hmeas.out, hbs⟩
          case round =>
            clear HM HW0 hmeas hbs htl
            obtain ⟨F, M, T, HM, hwl, hq, hbs⟩ := hrel
            have hsz := HM.lt
            have hwr := hWw.trans (HM.bel.mono (by omega))
            have hFl := hwl.out.flen
            have hMl := hwl.out.mlen
            rcases List.eq_nil_or_concat T with rfl | ⟨T', a, rfl⟩
            · obtain ⟨tao, tcap, rfl, htl⟩ : ∃ tao tcap, u7 = .slice tao 0 tcap ∧ 0 ≤ tcap := by
                obtain ⟨vs, q1, q2⟩ := HM.fam
                obtain ⟨ao, cap, q3, q4, -⟩ := (q2.2.1 0 _ _ rfl rfl).shape
                exact ⟨ao, cap, q3, by omega⟩
              have k0 : wr.cell? ⟨Bs, 0, none⟩ = some (.slice aa n ac) := Row.cell HM.st (j := 0) (by simp)
              have k1 : wr.cell? ⟨Bs, 1, none⟩ = some (.slice ra rs.length rc) := Row.cell HM.st (j := 1) (by simp)
              have k2 : wr.cell? ⟨Bs, 2, none⟩ = some (.slice (some ⟨B1, 0, none⟩) n n) := Row.cell HM.st (j := 2) (by simp)
              have k3 : wr.cell? ⟨Bs, 3, none⟩ = some (.slice (some ⟨B2, 0, none⟩) n n) := Row.cell HM.st (j := 3) (by simp)
              have k4 : wr.cell? ⟨Bs, 4, none⟩ = some (.slice (some ⟨B3, 0, none⟩) n n) := Row.cell HM.st (j := 4) (by simp)
              have D := d2.below HM.bel (by omega)
              have k5 : wr.cell? ⟨w.heap.size + 1, 0, none⟩ = some (Value.slice none 0 0) := D.cell (j := 0) (by simp)
              have k6 : wr.cell? ⟨w.heap.size + 1, 1, none⟩ = some (Value.slice none 0 0) := D.cell (j := 1) (by simp)
              have k7 : wr.cell? ⟨w.heap.size + 1, 2, none⟩ = some (Value.slice none 0 0) := D.cell (j := 2) (by simp)
              have k8 : wr.cell? ⟨w.heap.size + 1, 3, none⟩ = some (Value.slice none 0 0) := D.cell (j := 3) (by simp)
              have k9 : wr.cell? ⟨w.heap.size + 1, 4, none⟩ = some (Value.slice none 0 0) := D.cell (j := 4) (by simp)
              have kf := fun j => D.frozen j
              go_wp2_with fail
              have D0 := D.set 0 (.slice aa n ac)
              have D1 := D0.set 1 (.slice ra rs.length rc)
              have D2 := D1.set 2 (.slice (some ⟨B1, 0, none⟩) n n)
              have D3 := D2.set 3 (.slice (some ⟨B2, 0, none⟩) n n)
              have D4 := D3.set 4 (.slice (some ⟨B3, 0, none⟩) n n)
              have f0 := D0.cell (j := 0) (by simp)
              have f1 := D1.cell (j := 1) (by simp)
              have f2 := D2.cell (j := 2) (by simp)
              have f3 := D3.cell (j := 3) (by simp)
              have f4 := D4.cell (j := 4) (by simp)
              simp only [List.set_cons_zero, List.set_cons_succ, List.getElem_cons_zero, List.getElem_cons_succ] at f0 f1 f2 f3 f4
              refine bodyPost_ret (v := .agg #[.slice aa n ac, .slice ra rs.length rc, .slice (some ⟨B1, 0, none⟩) n n, .slice (some ⟨B2, 0, none⟩) n n, .slice (some ⟨B3, 0, none⟩) n n]) (by simp [results, Try.results28, go_sem, f0, f1, f2, f3, f4]) rfl ⟨_, rfl, ?_, ?_⟩
              · exact (((((hwr.setCell (by simp) _).setCell (by simp) _).setCell (by simp) _).setCell (by simp) _).setCell (by simp) _)
              · have five : ∀ {B : Nat} {xs : List Bool}, RowB 4 wr B xs → w.heap.size + 1 ≠ B → RowB 4 (((((wr.setCell ⟨w.heap.size + 1, 0, none⟩ (.slice aa n ac)).setCell ⟨w.heap.size + 1, 1, none⟩ (.slice ra rs.length rc)).setCell ⟨w.heap.size + 1, 2, none⟩ (.slice (some ⟨B1, 0, none⟩) n n)).setCell ⟨w.heap.size + 1, 3, none⟩ (.slice (some ⟨B2, 0, none⟩) n n)).setCell ⟨w.heap.size + 1, 4, none⟩ (.slice (some ⟨B3, 0, none⟩) n n)) B xs :=
                  fun h hne => ((((h.setOther _ hne).setOther _ hne).setOther _ hne).setOther _ hne).setOther _ hne
                have hall : Below w.heap.size w (((((wr.setCell ⟨w.heap.size + 1, 0, none⟩ (.slice aa n ac)).setCell ⟨w.heap.size + 1, 1, none⟩ (.slice ra rs.length rc)).setCell ⟨w.heap.size + 1, 2, none⟩ (.slice (some ⟨B1, 0, none⟩) n n)).setCell ⟨w.heap.size + 1, 3, none⟩ (.slice (some ⟨B2, 0, none⟩) n n)).setCell ⟨w.heap.size + 1, 4, none⟩ (.slice (some ⟨B3, 0, none⟩) n n)) :=
                  (((((hwr.setCell (by simp) _).setCell (by simp) _).setCell (by simp) _).setCell (by simp) _).setCell (by simp) _)
                have hL := L.lo
                have r1 := five HM.f (by omega)
                have r2 := five HM.r (by omega)
                have r3 := five HM.fo (by omega)
                obtain ⟨rfl, rfl⟩ := hfin.out
                have hFe := WL.done hgood.toGoodP hwl.out
                rw [ok.facts] at r1
                rw [ok.has] at r2
                rw [hFe] at r3 hFl
                have hml : g.atoms.length ≤ maxLen := by simp only [maxLen]; omega
                exact ⟨_, _, _, _, _, rfl, ⟨_, _, rfl, (Hga.out.at hall).mono (fun b h _ => .inl h) (fun _ _ _ => rfl), (Hgr.out.at hall).mono (fun b h _ => .inl h) (fun _ _ _ => rfl)⟩,
                  r1.seq (by simp [factsL]) (Nat.le_refl _) hml (by simp [factsL]; omega) (.inr (by omega)), r2.seq (by simp [hasL]) (Nat.le_refl _) hml (by simp [hasL]; omega) (.inr (by omega)), r3.seq hFl.symm (Nat.le_refl _) hml (by omega) (.inr (by omega))⟩
            · rw [List.concat_eq_append] at HM hwl hq
              have ha := hwl.out.tfol a (by simp)
              have ha0 : 0 ≤ a := ha.2.1
              have ha1 : a < (n : Int) := ha.2.2
              have htn : T'.length ≤ 100000 := by
                have h1 := hwl.out.tlen
                have h2 := cntZ_le M
                rw [List.length_append, List.length_singleton] at h1
                omega
              have hq' : T'.length + 1 + restW s.waits F < gk := by simpa using hq
              obtain ⟨tao, tcap, rfl, htl⟩ : ∃ tao tcap, u7 = .slice tao (T'.length + 1) tcap ∧ T'.length + 1 ≤ tcap := by
                obtain ⟨vs, q1, q2⟩ := HM.fam
                obtain ⟨ao, cap, q3, q4, -⟩ := (q2.2.1 0 _ _ rfl rfl).shape
                exact ⟨ao, cap, by simpa using q3, by simpa using q4⟩
              obtain ⟨tg, rfl, hct⟩ : ∃ tg, tao = some ⟨tg, 0, none⟩ ∧ wr.cell? ⟨tg, T'.length, none⟩ = some (.int .i64 a) := by
                obtain ⟨vs, q1, q2⟩ := HM.fam
                obtain ⟨g, cap, q3, -, -, q4, -⟩ := (q2.2.1 0 _ _ rfl rfl).int (k := T'.length) (by simp)
                simp only [Value.slice.injEq] at q3
                exact ⟨g, q3.1, by simpa using q4⟩
              have HP : LookM (w.heap.size + 1) base n (.slice aa n ac) (.slice ra rs.length rc) Wp Bs B1 B2 B3 Bm Bw (fun _ => True) wr s.fact s.rules F M s.waits (.slice (some ⟨tg, 0, none⟩) T'.length tcap) T' := by
                have h1 : T'.length + 1 = (T' ++ [a]).length := by simp
                rw [h1] at HM
                exact HM.popT
              have HP := Lib.hid HP
              have k4 : wr.cell? ⟨Bs, 4, none⟩ = some (.slice (some ⟨B3, 0, none⟩) n n) := Row.cell HM.st (j := 4) (by simp)
              have haF : a.toNat < F.length := by omega
              have c7 := RowB.cell HM.fo haF
              have c8 := RowB.frozen HM.fo a.toNat
              have hgd : F.getD a.toNat false = F[a.toNat] := by
                rw [List.getD_eq_getElem?_getD, List.getElem?_eq_getElem haF]; rfl
              have Hgd := Lib.hid hgd
              clear hgd HM ha
              cases hv : F[a.toNat]
              · rw [hv] at c7
                have HWM := Lib.hid (hwl.out.mark hgr' ok (by rw [Hgd.out, hv]))
                have HRW := Lib.hid (restW_set s.waits F a.toNat haF (by rw [ok.wlen]; omega) (by rw [Hgd.out, hv]))
                obtain ⟨is, his⟩ : ∃ is, is = s.waits.getD a.toNat [] := ⟨_, rfl⟩
                rw [← his] at HWM HRW
                have hism : ∀ i ∈ is, 0 ≤ i ∧ i < (rs.length : Int) := by
                  intro i hi
                  rw [his] at hi
                  obtain ⟨j, hj, rfl⟩ := ok.wmem _ i hi
                  exact ⟨by omega, by omega⟩
                have hisl : is.length ≤ 10000000000 := by have := ok.wll a.toNat; rw [← his] at this; omega
                have hM0 : ∀ i : Nat, i < rs.length → 0 ≤ M.getD i 0 ∧ M.getD i 0 ≤ 100000 := by
                  intro i hi
                  have h1 := hwl.out.mis i hi
                  have h2 := List.countP_le_length (p := fun p => !(F.getD p.toNat false)) (l := rs[i].pos)
                  have h3 := hps _ (List.getElem_mem hi)
                  omega
                have HM0 := Lib.hid hM0
                obtain ⟨vs, q1, q2⟩ := HP.out.fam
                have hvl : vs.length = n := by have := q2.1; have h2 := ok.wlen; simp at this; omega
                obtain ⟨vx, hvx⟩ : ∃ vx, vs[a.toNat]? = some vx := by rw [List.getElem?_eq_getElem (by omega : a.toNat < vs.length)]; exact ⟨_, rfl⟩
                have hix : s.waits[a.toNat]? = some is := by
                  rw [his, List.getD_eq_getElem?_getD, List.getElem?_eq_getElem (by rw [ok.wlen]; omega : a.toNat < s.waits.length)]; rfl
                have hownx : Own intE (fun _ => False) base 3 wr vx is := q2.2.1 (a.toNat + 1) vx is hvx hix
                obtain ⟨xao, xcap, rfl, -⟩ := hownx.shape
                have cw : wr.cell? ⟨Bw, a.toNat, none⟩ = some (.slice xao is.length xcap) := by
                  rw [q1.cell (j := a.toNat) (by omega), ← hvx, List.getElem?_eq_getElem (by omega : a.toNat < vs.length)]
                have H2 := HP.out.setO L a.toNat true
                have L3 := L.s3
                have L3w := L.n3w
                have q1' : Row 24 (wr.setCell ⟨B3, a.toNat, none⟩ (.bool true)) Bw vs := q1.setOther _ L3w
                have q2' : Fam (fun _ => True) base (wr.setCell ⟨B3, a.toNat, none⟩ (.bool true)) (.slice (some ⟨tg, 0, none⟩) T'.length tcap :: vs) (T' :: s.waits) :=
                  q2.at (fun b h3 _ _ => Below.heap_setCell _ _ _ _ (fun e => by have : b = B3 := e; have := L.hi.2.2.2.1; omega)) (fun _ _ h => h)
                have Hvx := Lib.hid hvx
                have Hix := Lib.hid hix
                have Hism := Lib.hid hism
                have His := Lib.hid his
                clear his hism hM0 hvx hix hownx q1 q2 hwl
                obtain ⟨w3, rfl⟩ : ∃ w3, w3 = wr := ⟨_, rfl⟩
                go_wp2_with fail
                go_loopw [7, 124] (fun tv i wx => ∃ j : Nat, j ≤ is.length ∧ i = .int .i64 j ∧ ∃ st : List Int × List Int, Hid (st = wlIn (rs.map Rule.head) (M, T') (is.take j)) ∧ LookM (w.heap.size + 1) base n (.slice aa n ac) (.slice ra rs.length rc) Wp Bs B1 B2 B3 Bm Bw (fun _ => True) wx s.fact s.rules (F.set a.toNat true) st.1 s.waits tv st.2 ∧
                  Row 24 wx Bw vs ∧ Fam (fun _ => True) base wx (tv :: vs) (st.2 :: s.waits) ∧ base ≤ wx.heap.size) (fun _ i _ => is.length - (intOf i).toNat)
                case atStart => exact ⟨0, Nat.zero_le _, rfl, (M, T'), Lib.hid rfl, H2, q1', q2', by simpa using hbs⟩
                case round =>
                  clear H2 q1' q2' hbs cw c7 c8 k4 hct hsz
                  obtain ⟨j, hj, rfl, ⟨M2, T2⟩, hst, HX, q1, q2, hbs⟩ := hrel
                  simp only at HX q2
                  by_cases hlj : j < is.length
                  · have hx := Hism.out _ (List.getElem_mem hlj)
                    obtain ⟨x, hxe⟩ : ∃ x, x = is[j] := ⟨_, rfl⟩
                    have hsn := Lib.hid (wlIn_snoc (rs.map Rule.head) (M, T') is j hlj)
                    obtain ⟨xg, rfl, hxc⟩ : ∃ xg, xao = some ⟨xg, 0, none⟩ ∧ wr.cell? ⟨xg, j, none⟩ = some (.int .i64 x) := by
                      obtain ⟨g, cap, q3, -, -, q4, -⟩ := (q2.2.1 (a.toNat + 1) _ _ Hvx.out Hix.out).int (k := j) hlj
                      simp only [Value.slice.injEq] at q3
                      exact ⟨g, q3.1, by rw [hxe]; exact q4⟩
                    rw [← hxe] at hx hsn
                    have hx0 : 0 ≤ x := hx.1
                    have hx1 : x < (rs.length : Int) := hx.2
                    have hxr : x.toNat < rs.length := by omega
                    have hM2l : M2.length = rs.length := by have := congrArg (fun p : List Int × List Int => p.1.length) hst.out; simp only [wlIn_len] at this; rw [this]; exact hMl
                    have hT2 : T2.length ≤ 100000000000 := by
                      have h1 := congrArg (fun p : List Int × List Int => p.2.length) hst.out
                      simp only at h1
                      have h2 := wlIn_tl (rs.map Rule.head) (is.take j) (M, T')
                      rw [← h1] at h2
                      have h3 : (is.take j).length ≤ is.length := by rw [List.length_take]; omega
                      have h4 : T2.length ≤ T'.length + (is.take j).length := h2
                      omega
                    have hxM : x.toNat < M2.length := by omega
                    obtain ⟨mv, hmv⟩ : ∃ mv, mv = M2[x.toNat] := ⟨_, rfl⟩
                    have hmg : M2.getD x.toNat 0 = mv := by rw [hmv, List.getD_eq_getElem?_getD, List.getElem?_eq_getElem hxM]; rfl
                    have hmb : -20000000000 ≤ mv ∧ mv ≤ 100000 := by
                      have h1 := wlIn_at (rs.map Rule.head) (is.take j) (M, T') (fun y hy => by have := Hism.out y (List.mem_of_mem_take hy); exact ⟨this.1, by show y < (M.length : Int); omega⟩) x.toNat
                      rw [← hst.out] at h1
                      have h1 : M2.getD x.toNat 0 = M.getD x.toNat 0 - ((is.take j).count ((x.toNat : Nat) : Int) : Int) := h1
                      have h2 := HM0.out x.toNat hxr
                      have h3 := List.count_le_length (a := ((x.toNat : Nat) : Int)) (l := is.take j)
                      have h4 : (is.take j).length ≤ is.length := by rw [List.length_take]; omega
                      omega
                    have hmb1 : -20000000000 ≤ mv := hmb.1
                    have hmb2 : mv ≤ 100000 := hmb.2
                    have c5 := RowI.cell HX.mi hxM
                    have c6 := RowI.frozen HX.mi x.toNat
                    rw [← hmv] at c5
                    have hwx := hWw.trans (HX.bel.mono (by omega))
                    obtain ⟨rb, ro, pa, pc, na, nc, rfl, hSb, hbb, g0, -, -, hok, -, -⟩ := hr5.rule hxr
                    have h0 := (hwx.cell (p := ⟨rb, ro + x.toNat * 3, none⟩) hbb).trans g0
                    have c1 := (HX.bel.cell (p := ⟨w.heap.size, 1, none⟩) (by simp; omega)).trans d1
                    have hlo := L.lo.2.2.2.2.1
                    have n1 : w.heap.size ≠ Bm := by omega
                    have n2 : rb ≠ Bm := by omega
                    have hhd : (rs.map Rule.head).getD x.toNat 0 = rs[x.toNat].head := by
                      rw [List.getD_eq_getElem?_getD, List.getElem?_eq_getElem (by simpa using hxr)]; simp
                    obtain ⟨hd, hhde⟩ : ∃ hd, hd = rs[x.toNat].head := ⟨_, rfl⟩
                    rw [← hhde] at h0 hok hhd
                    have hnst : wlIn (rs.map Rule.head) (M, T') (is.take (j + 1)) = (M2.set x.toNat (mv - 1), if mv - 1 = 0 then T2 ++ [hd] else T2) := by
                      rw [hsn.out, ← hst.out]
                      unfold wlStep
                      simp only [hmg, hhd]
                    have Hnst := Lib.hid hnst
                    obtain ⟨t2, c2p, rfl, ht2⟩ : ∃ ao cap, u7 = .slice ao T2.length cap ∧ T2.length ≤ cap := by
                      obtain ⟨ao, cap, q3, q4, -⟩ := (q2.2.1 0 _ _ rfl rfl).shape
                      exact ⟨ao, cap, q3, q4⟩
                    have H3 := HX.setM L x.toNat (mv - 1)
                    have q1' : Row 24 (wr.setCell ⟨Bm, x.toNat, none⟩ (.int .i64 (mv - 1))) Bw vs := q1.setOther _ L.nmw
                    have q2' : Fam (fun _ => True) base (wr.setCell ⟨Bm, x.toNat, none⟩ (.int .i64 (mv - 1))) (.slice t2 T2.length c2p :: vs) (T2 :: s.waits) :=
                      q2.at (fun b h3 _ _ => Below.heap_setCell _ _ _ _ (fun e => by have : b = Bm := e; have := L.hi.2.2.2.2.1; omega)) (fun _ _ h => h)
                    clear hnst hhd hmb hmg hmv hhde hxe hx hsn hst hr5 d1 HX q1 q2 g0
                    by_cases hz : mv = 1
                    · have hzb : (mv - 1 == 0) = true := by simp [hz]
                      have hz' : mv - 1 = 0 := by omega
                      have HN := Hnst.out
                      rw [if_pos hz'] at HN
                      have HN := Lib.hid HN
                      have hown : Own intE (fun _ => False) base 3 (wr.setCell ⟨Bm, x.toNat, none⟩ (.int .i64 (mv - 1))) (.slice t2 T2.length c2p) T2 := q2'.2.1 0 _ _ rfl rfl
                      have Hz := Lib.hid hz
                      clear hz hz' Hnst
                      go_wp2_with (at_builtin; refine wpList_app_int rfl _ _ 24 rfl Try.underlying24 infoInt rfl hown rfl (y := hd) Seq.way ?_ ?_ ?_ ?_ ?_)
                      · exact hok
                      · go_simp
                      · omega
                      · simpa using hbs
                      · intro ao' cap' w' hown' hkept
                        have hb' := (Seq.way (w := wr.setCell ⟨Bm, x.toNat, none⟩ (.int .i64 (mv - 1))) (w' := (wr.setCell ⟨Bm, x.toNat, none⟩ (.int .i64 (mv - 1))).alloc (.cells #[.int .i64 hd] 3)) (B := base) ((Below.refl _ _).alloc (by simpa using hbs) _)).trans hkept.below
                        have hz2 := hb'.size
                        have H4 := H3.appT L (w := (wr.setCell ⟨Bm, x.toNat, none⟩ (.int .i64 (mv - 1))).alloc (.cells #[.int .i64 hd] 3)) Seq.way hown' hkept trivial (by simpa using hbs)
                        have q1n := q1'.below hb' L.hi.2.2.2.2.2
                        have q2n := q2'.app (w := (wr.setCell ⟨Bm, x.toNat, none⟩ (.int .i64 (mv - 1))).alloc (.cells #[.int .i64 hd] 3)) Seq.way (j := 0) (v := .slice t2 T2.length c2p) rfl hown' hkept trivial
                        clear hown hown' hb' H3 q1' q2'
                        go_wp2_with fail
                        go_roundw
                        case rel => exact ⟨j + 1, hlj, by go_num, (_, _), Lib.hid HN.out.symm, H4, q1n, q2n, by simp at hz2; omega⟩
                        case measure => simp [intOf]; omega
                    · have hzb : (mv - 1 == 0) = false := by rw [beq_eq_false_iff_ne]; omega
                      have hz' : ¬ mv - 1 = 0 := by omega
                      have HN := Hnst.out
                      rw [if_neg hz'] at HN
                      have HN := Lib.hid HN
                      clear Hnst
                      go_wp2_with fail
                      go_roundw
                      case rel => exact ⟨j + 1, hlj, by go_num, (_, _), Lib.hid HN.out.symm, H3, q1', q2', by simpa using hbs⟩
                      case measure => simp [intOf]; omega
                  · obtain rfl : j = is.length := by omega
                    have hst' : (M2, T2) = wlIn (rs.map Rule.head) (M, T') is := by rw [hst.out, List.take_length]
                    have hWM := HWM.out
                    rw [← hst'] at hWM
                    have htl : T2.length ≤ T'.length + is.length := by
                      have h1 := congrArg (fun p : List Int × List Int => p.2.length) hst'
                      have h2 := wlIn_tl (rs.map Rule.head) is (M, T')
                      rw [← h1] at h2
                      exact h2
                    have hWM := Lib.hid hWM
                    have hrw := HRW.out
                    have hms : T2.length + restW s.waits (F.set a.toNat true) < gk - 1 := by omega
                    clear hst hst' q1 q2
                    go_wp2_with fail
                    go_roundg (gk - 1)
                    case measure => omega
                    case rel => exact ⟨_, _, _, HX, hWM, hms, hbs⟩
              · rw [hv] at c7
                have hsk := Lib.hid (hwl.out.skip (by rw [Hgd.out, hv]))
                clear hv
                go_wp2_with fail
                go_roundg (gk - 1)
                case measure => omega
                case rel => exact ⟨F, M, T', HP.out, hsk, by omega, hbs⟩
end Go.Proofs.Ytdbennmbbmoflaa
