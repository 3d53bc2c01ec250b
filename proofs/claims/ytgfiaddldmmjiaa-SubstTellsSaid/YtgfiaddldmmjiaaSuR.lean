/-
  Layer 2, the laws' beginning: v, f; literal slices; head.
-/
import Derived.Test.YtgfiaddldmmjiaaSuQ
namespace Go.Proofs.Ytgfiaddldmmjiaa
open Go Go.RowKit

def vC (n : Int) : Cell := ⟨1, ⟨#[]⟩, n⟩
def fC (nm : ByteArray) (n : Int) : Cell := ⟨3, nm, n⟩
theorem v_spec {n : Int} {w : World} : Calls Try.prog 27 #[.int .i64 n] w fun e w' => e = .returned (.agg #[.int .i64 1, .string ⟨#[]⟩, .int .i64 n]) ∧ w' = w.alloc (.cells #[.int .i64 1, .string ⟨#[]⟩, .int .i64 n] 41) := by
  go_enter Try.func27, Try.ntmps27
  go_wp2_with fail
  refine bodyPost_ret (v := .agg #[.int .i64 1, .string ⟨#[]⟩, .int .i64 n]) (by simp [results, Try.results27, go_sem]) rfl ⟨rfl, rfl⟩
theorem f_spec {nm : ByteArray} {n : Int} {w : World} : Calls Try.prog 34 #[.string nm, .int .i64 n] w fun e w' => e = .returned (.agg #[.int .i64 3, .string nm, .int .i64 n]) ∧ w' = w.alloc (.cells #[.int .i64 3, .string nm, .int .i64 n] 41) := by
  go_enter Try.func34, Try.ntmps34
  go_wp2_with fail
  refine bodyPost_ret (v := .agg #[.int .i64 3, .string nm, .int .i64 n]) (by simp [results, Try.results34, go_sem]) rfl ⟨rfl, rfl⟩
theorem FlatE.seq {α : Type} {E : Elt α} {S : Nat → Prop} {e : TypeId} {w : World} {B n : Nat} {vs : List Value} {l : List α} (hR : Row e w B vs) (hF : FlatE E S w vs l) (hS : S B) (hn : n = l.length) (hl : l.length ≤ 1000) : Seq E S w (.slice (some ⟨B, 0, none⟩) n n) l :=
  hR.seq hn (Nat.le_refl _) (by unfold maxLen; omega) (by omega) hS fun k x hk => hF.2 k x hk
theorem flatC {S : Nat → Prop} {w : World} {c : Cell} (h : CellW c) : FlatE cellE S w [.int .i64 c.kind, .string c.name, .int .i64 c.n] [c] := FlatE.single (E := cellE) ⟨rfl, h⟩
theorem flatB {S : Nat → Prop} {w : World} {n : Int} {v : Value} {t : List Cell} (h0 : IntOK n) (h : Seq cellE S w v t) : FlatE bindE S w [.int .i64 n, v] [⟨n, t⟩] := FlatE.single (E := bindE) (x := ⟨n, t⟩) ⟨v, rfl, h0, h⟩
theorem flatI {S : Nat → Prop} {w : World} {n : Int} (h0 : IntOK n) : FlatE intE S w [.int .i64 n] [n] := FlatE.single (E := intE) ⟨rfl, h0⟩
theorem Seq.sat {α : Type} {E : Elt α} {S : Nat → Prop} {w : World} {ao : Option Addr} {n cap : Nat} {xs : List α} (h : Seq E S w (.slice ao n cap) xs) : SeqAt E S w ao xs := by
  obtain ⟨_, _, ee, -, -, -, -, h5⟩ := h
  simp only [Value.slice.injEq] at ee
  obtain ⟨rfl, -⟩ := ee
  exact h5
theorem SeqAt.addr {α : Type} {E : Elt α} {S : Nat → Prop} {w : World} {ao : Option Addr} {xs : List α} (h : SeqAt E S w ao xs) (hk : 0 < xs.length) : ∃ b off, ao = some ⟨b, off, none⟩ := by
  obtain ⟨b, off, cs, h1, -⟩ := h 0 _ (List.getElem?_eq_getElem hk)
  exact ⟨b, off, h1⟩
theorem SeqAt.bndAt {S : Nat → Prop} {w : World} {b off : Nat} {xs : List Bnd} (h : SeqAt bindE S w (some ⟨b, off, none⟩) xs) {k : Nat} (hk : k < xs.length) :
    ∃ ta tc, b < w.heap.size ∧ w.cell? ⟨b, off + k * 2, none⟩ = some (.int .i64 xs[k].var) ∧ w.cell? ⟨b, off + k * 2 + 1, none⟩ = some (.slice ta xs[k].t.length tc) ∧ Seq cellE S w (.slice ta xs[k].t.length tc) xs[k].t := by
  obtain ⟨b', off', ta, tc, e, -, h1, h2, h3, -, h4⟩ := h.bnd2 hk
  simp only [Option.some.injEq, Addr.mk.injEq, and_true] at e
  obtain ⟨rfl, rfl⟩ := e
  exact ⟨ta, tc, h1, h2, h3, h4⟩

/-! ### head -/
theorem okV {n : Int} (h : IntOK n) : CellW (vC n) := ⟨⟨by show _ ≤ (1 : Int); decide, by show (1 : Int) ≤ _; decide⟩, h, by show (⟨#[]⟩ : ByteArray).size ≤ _; decide⟩
theorem okF {nm : ByteArray} {n : Int} (h : IntOK n) (h2 : nm.size ≤ 140737488355328) : CellW (fC nm n) := ⟨⟨by show _ ≤ (3 : Int); decide, by show (3 : Int) ≤ _; decide⟩, h, h2⟩
instance {n : Int} : Decidable (IntOK n) := by unfold IntOK; infer_instance
theorem hd_app1 : appO [Bnd.mk 0 [fC ⟨#[103]⟩ 1, vC 1]] [fC ⟨#[102]⟩ 2, vC 0, vC 1] = some [fC ⟨#[102]⟩ 2, fC ⟨#[103]⟩ 1, vC 1, vC 1] := by rfl
theorem hd_comp1 : composeL [Bnd.mk 0 [vC 1]] [Bnd.mk 1 [vC 0]] = some [Bnd.mk 1 [vC 0]] := compose_law (L := [Bnd.mk 0 [vC 0]]) (by simp [VarsNe]) (by simp [VarsNe]) (by simp) (by simp) (fstM_snoc (fstM_nil _ _) (by decide) rfl) (List.Perm.refl _) (by simp)
theorem hd_comp2 : composeL [Bnd.mk 0 [vC 1], Bnd.mk 1 [vC 2]] [Bnd.mk 2 [vC 0]] = some [Bnd.mk 0 [vC 1], Bnd.mk 1 [vC 0], Bnd.mk 2 [vC 0]] := compose_law (L := [Bnd.mk 0 [vC 1], Bnd.mk 1 [vC 0]]) (by simp [VarsNe]) (by simp [VarsNe]) (by simp) (by simp) (fstM_snoc (fstM_snoc (fstM_nil _ _) (by decide) rfl) (by decide) rfl) (List.Perm.refl _) (by simp)
theorem hd_keep : keepS [Bnd.mk 0 [vC 1], Bnd.mk 1 [vC 0], Bnd.mk 2 [vC 0]] [5, 2, 0] = [Bnd.mk 0 [vC 1], Bnd.mk 2 [vC 0]] := by rfl
theorem hd_app2 : appO [Bnd.mk 0 [vC 1], Bnd.mk 1 [vC 0]] [fC ⟨#[102]⟩ 2, vC 0, vC 1] = some [fC ⟨#[102]⟩ 2, vC 1, vC 0] := by rfl
theorem hd_r1 : rightS [Bnd.mk 0 [vC 1], Bnd.mk 1 [vC 0]] = true := by decide
theorem hd_i1 : idemS [Bnd.mk 0 [vC 1], Bnd.mk 1 [vC 0]] = false := by decide
theorem hd_i2 : idemS [Bnd.mk 1 [vC 0]] = true := by decide
theorem hd_r2 : rightS [Bnd.mk 3 [vC 3]] = false := by decide
theorem hd_r3 : rightS [Bnd.mk 1 [vC 0], Bnd.mk 0 [vC 1]] = false := by decide
theorem hd_r4 : rightS [] = true := by decide

def sndC : Code → Code
  | .seq _ b => b
  | c => c
def fstC : Code → Code
  | .seq a _ => a
  | c => c
set_option maxHeartbeats 8000000 in
set_option maxRecDepth 100000 in
theorem r9_spec {w5 : World} {a1 a2 a3 a4 a5 a6 : Option Addr} {c1 c2 c3 c4 c5 c6 : Nat} {u11 u12 u13 u14 u15 u16 u17 u18 u19 u20 u21 u22 u23 u24 u25 u26 u27 u28 u29 u30 u31 u32 u33 u34 u35 u36 u37 u38 u39 u40 u41 u42 u43 u44 u45 u46 u47 u48 u49 u50 u51 u52 u53 u54 u55 u56 u57 u58 u59 u60 u61 u62 u63 u64 u65 u66 u67 u68 u69 u70 u71 u72 u73 u74 u75 u76 u77 u78 u79 u80 u81 u82 u83 u84 u85 u86 u87 u88 u89 u90 u91 u92 u93 u94 u95 u96 u97 u98 u99 u100 u101 u102 u103 u104 u105 u106 u107 u108 u109 u110 u111 u112 u113 u114 u115 u116 u117 u118 u119 u120 u121 u122 u123 u124 u125 u126 u127 u128 u129 u130 u131 u132 u133 u134 u135 u136 u137 u138 u139 u140 u141 u142 u143 u144 u145 u146 u147 u148 u149 u150 u151 u152 u153 u154 u155 u156 u157 u158 u159 u160 u161 u162 u163 u164 u165 u166 u167 u168 u169 u170 u171 u172 u173 u174 u175 u176 u177 u178 u179 u180 u181 u182 u183 u184 u185 u186 u187 u188 u189 u190 u191 u192 u193 u194 u195 u196 u197 u198 u199 u200 u201 u202 u203 u204 u205 u206 u207 u208 u209 u210 u211 u212 u213 u214 u215 u216 u217 u218 u219 u220 u221 u222 : Value} {Q : Exit → Act → World → Prop}
    (hA : Seq cellE (fun _ => True) w5 (.slice a1 4 c1) [fC ⟨#[102]⟩ 2, fC ⟨#[103]⟩ 1, vC 1, vC 1]) (hB : Seq bindE (fun _ => True) w5 (.slice a2 1 c2) [Bnd.mk 1 [vC 0]]) (hC : Seq bindE (fun _ => True) w5 (.slice a3 3 c3) [Bnd.mk 0 [vC 1], Bnd.mk 1 [vC 0], Bnd.mk 2 [vC 0]])
    (hK : Seq bindE (fun _ => True) w5 (.slice a4 2 c4) [Bnd.mk 0 [vC 1], Bnd.mk 2 [vC 0]]) (hS : Seq bindE (fun _ => True) w5 (.slice a6 2 c6) [Bnd.mk 0 [vC 1], Bnd.mk 1 [vC 0]]) (hD : Seq cellE (fun _ => True) w5 (.slice a5 3 c5) [fC ⟨#[102]⟩ 2, vC 1, vC 0])
    (hQ : ∀ (s1 s2 s3 s4 s5 s6 s7 s8 s9 s10 s11 s12 s13 s14 s15 s16 s17 s18 s19 s20 s21 s22 s23 s24 s25 s26 s27 s28 s29 s30 s31 s32 s33 s34 s35 s36 s37 s38 s39 s40 s41 s42 s43 s44 s45 s46 s47 s48 s49 s50 s51 s52 s53 s54 s55 s56 s57 s58 s59 s60 s61 s62 s63 s64 s65 s66 s67 s68 s69 s70 s71 s72 s73 s74 s75 s76 s77 s78 s79 s80 s81 s82 s83 s84 s85 s86 s87 s88 s89 s90 s91 s92 s93 s94 s95 s96 s97 s98 s99 s100 s101 s102 s103 s104 s105 s106 s107 s108 s109 s110 s111 s112 s113 s114 s115 s116 s117 s118 s119 s120 s121 s122 s123 s124 s125 s126 s127 s128 s129 s130 s131 s132 s133 s134 s135 s136 s137 s138 s139 s140 s141 s142 s143 s144 s145 s146 s147 s148 s149 s150 s151 s152 s153 s154 s155 s156 s157 s158 s159 s160 s161 s162 s163 s164 s165 s166 s167 s168 s169 s170 s171 s172 s173 s174 s175 s176 s177 s178 s179 s180 s181 s182 s183 s184 s185 s186 s187 s188 s189 s190 s191 s192 s193 s194 s195 s196 s197 s198 s199 s200 s201 s202 s203 s204 s205 s206 s207 s208 s209 s210 s211 s212 s213 s214 s215 s216 s217 s218 s219 s220 s221 s222 : Value) (w' : World), Below w5.heap.size w5 w' → Q .normal { tmps := #[.bool true, s1, s2, s3, s4, s5, s6, s7, s8, s9, s10, s11, s12, s13, s14, s15, s16, s17, s18, s19, s20, s21, s22, s23, s24, s25, s26, s27, s28, s29, s30, s31, s32, s33, s34, s35, s36, s37, s38, s39, s40, s41, s42, s43, s44, s45, s46, s47, s48, s49, s50, s51, s52, s53, s54, s55, s56, s57, s58, s59, s60, s61, s62, s63, s64, s65, s66, s67, s68, s69, s70, s71, s72, s73, s74, s75, s76, s77, s78, s79, s80, s81, s82, s83, s84, s85, s86, s87, s88, s89, s90, s91, s92, s93, s94, s95, s96, s97, s98, s99, s100, s101, s102, s103, s104, s105, s106, s107, s108, s109, s110, s111, s112, s113, s114, s115, s116, s117, s118, s119, s120, s121, s122, s123, s124, s125, s126, s127, s128, s129, s130, s131, s132, s133, s134, s135, s136, s137, s138, s139, s140, s141, s142, s143, s144, s145, s146, s147, s148, s149, s150, s151, s152, s153, s154, s155, s156, s157, s158, s159, s160, s161, s162, s163, s164, s165, s166, s167, s168, s169, s170, s171, s172, s173, s174, s175, s176, s177, s178, s179, s180, s181, s182, s183, s184, s185, s186, s187, s188, s189, s190, s191, s192, s193, s194, s195, s196, s197, s198, s199, s200, s201, s202, s203, s204, s205, s206, s207, s208, s209, s210, s211, s212, s213, s214, s215, s216, s217, s218, s219, s220, s221, s222], defers := [] } w') :
    Code.wp Try.prog (fstC (sndC (sndC (sndC (sndC (sndC (sndC (sndC (sndC (Try.f12.body.getD .skip)))))))))) Q { tmps := #[.bool false, .slice a1 4 c1, .bool true, .slice a2 1 c2, .bool true, .slice a3 3 c3, .bool true, .slice a4 2 c4, .slice a6 2 c6, .slice a5 3 c5, .bool true, u11, u12, u13, u14, u15, u16, u17, u18, u19, u20, u21, u22, u23, u24, u25, u26, u27, u28, u29, u30, u31, u32, u33, u34, u35, u36, u37, u38, u39, u40, u41, u42, u43, u44, u45, u46, u47, u48, u49, u50, u51, u52, u53, u54, u55, u56, u57, u58, u59, u60, u61, u62, u63, u64, u65, u66, u67, u68, u69, u70, u71, u72, u73, u74, u75, u76, u77, u78, u79, u80, u81, u82, u83, u84, u85, u86, u87, u88, u89, u90, u91, u92, u93, u94, u95, u96, u97, u98, u99, u100, u101, u102, u103, u104, u105, u106, u107, u108, u109, u110, u111, u112, u113, u114, u115, u116, u117, u118, u119, u120, u121, u122, u123, u124, u125, u126, u127, u128, u129, u130, u131, u132, u133, u134, u135, u136, u137, u138, u139, u140, u141, u142, u143, u144, u145, u146, u147, u148, u149, u150, u151, u152, u153, u154, u155, u156, u157, u158, u159, u160, u161, u162, u163, u164, u165, u166, u167, u168, u169, u170, u171, u172, u173, u174, u175, u176, u177, u178, u179, u180, u181, u182, u183, u184, u185, u186, u187, u188, u189, u190, u191, u192, u193, u194, u195, u196, u197, u198, u199, u200, u201, u202, u203, u204, u205, u206, u207, u208, u209, u210, u211, u212, u213, u214, u215, u216, u217, u218, u219, u220, u221, u222], defers := [] } w5 := by
  change Code.wp Try.prog (Code.region 9 _ _) Q _ w5
  have HA := Lib.hid hA
  have HBB := Lib.hid hB
  have HC := Lib.hid hC
  have HK := Lib.hid hK
  have HS := Lib.hid hS
  have HD := Lib.hid hD
  have HQ := Lib.hid hQ
  clear hA hB hC hK hS hD hQ
  have hb5 := Below.refl w5.heap.size w5
  obtain ⟨Bb, ob, rfl⟩ := HBB.out.sat.addr (by decide)
  obtain ⟨Bc, oc, rfl⟩ := HC.out.sat.addr (by decide)
  obtain ⟨Bk, ok, rfl⟩ := HK.out.sat.addr (by decide)
  obtain ⟨Bs, os, rfl⟩ := HS.out.sat.addr (by decide)
  obtain ⟨tb0, ub0, lb0, xb0, yb0, qb0⟩ := (HBB.out.sat).bndAt (k := 0) (by decide)
  have Qb0 := Lib.hid qb0
  obtain ⟨tc0, uc0, lc0, xc0, yc0, qc0⟩ := (HC.out.sat).bndAt (k := 0) (by decide)
  have Qc0 := Lib.hid qc0
  obtain ⟨tc1, uc1, lc1, xc1, yc1, qc1⟩ := (HC.out.sat).bndAt (k := 1) (by decide)
  have Qc1 := Lib.hid qc1
  obtain ⟨tc2, uc2, lc2, xc2, yc2, qc2⟩ := (HC.out.sat).bndAt (k := 2) (by decide)
  have Qc2 := Lib.hid qc2
  obtain ⟨tk0, uk0, lk0, xk0, yk0, qk0⟩ := (HK.out.sat).bndAt (k := 0) (by decide)
  have Qk0 := Lib.hid qk0
  obtain ⟨tk1, uk1, lk1, xk1, yk1, qk1⟩ := (HK.out.sat).bndAt (k := 1) (by decide)
  have Qk1 := Lib.hid qk1
  obtain ⟨ts0, us0, ls0, xs0, ys0, qs0⟩ := (HS.out.sat).bndAt (k := 0) (by decide)
  have Qs0 := Lib.hid qs0
  obtain ⟨ts1, us1, ls1, xs1, ys1, qs1⟩ := (HS.out.sat).bndAt (k := 1) (by decide)
  have Qs1 := Lib.hid qs1
  have KC := fun {W : World} (hW : Below w5.heap.size w5 W) => Lib.hid (show W.cell? ⟨Bb, ob, none⟩ = some (.int .i64 1) ∧ W.cell? ⟨Bb, ob + 1, none⟩ = some (.slice tb0 1 ub0) ∧ W.cell? ⟨Bc, oc, none⟩ = some (.int .i64 0) ∧ W.cell? ⟨Bc, oc + 1, none⟩ = some (.slice tc0 1 uc0) ∧ W.cell? ⟨Bc, oc + 2, none⟩ = some (.int .i64 1) ∧ W.cell? ⟨Bc, oc + 3, none⟩ = some (.slice tc1 1 uc1) ∧ W.cell? ⟨Bc, oc + 4, none⟩ = some (.int .i64 2) ∧ W.cell? ⟨Bc, oc + 5, none⟩ = some (.slice tc2 1 uc2) ∧ W.cell? ⟨Bk, ok, none⟩ = some (.int .i64 0) ∧ W.cell? ⟨Bk, ok + 1, none⟩ = some (.slice tk0 1 uk0) ∧ W.cell? ⟨Bk, ok + 2, none⟩ = some (.int .i64 2) ∧ W.cell? ⟨Bk, ok + 3, none⟩ = some (.slice tk1 1 uk1) ∧ W.cell? ⟨Bs, os, none⟩ = some (.int .i64 0) ∧ W.cell? ⟨Bs, os + 1, none⟩ = some (.slice ts0 1 us0) ∧ W.cell? ⟨Bs, os + 2, none⟩ = some (.int .i64 1) ∧ W.cell? ⟨Bs, os + 3, none⟩ = some (.slice ts1 1 us1) from ⟨(hW.cell (p := ⟨Bb, ob, none⟩) lb0).trans xb0, (hW.cell (p := ⟨Bb, ob + 1, none⟩) lb0).trans yb0, (hW.cell (p := ⟨Bc, oc, none⟩) lc0).trans xc0, (hW.cell (p := ⟨Bc, oc + 1, none⟩) lc0).trans yc0, (hW.cell (p := ⟨Bc, oc + 2, none⟩) lc1).trans xc1, (hW.cell (p := ⟨Bc, oc + 3, none⟩) lc1).trans yc1, (hW.cell (p := ⟨Bc, oc + 4, none⟩) lc2).trans xc2, (hW.cell (p := ⟨Bc, oc + 5, none⟩) lc2).trans yc2, (hW.cell (p := ⟨Bk, ok, none⟩) lk0).trans xk0, (hW.cell (p := ⟨Bk, ok + 1, none⟩) lk0).trans yk0, (hW.cell (p := ⟨Bk, ok + 2, none⟩) lk1).trans xk1, (hW.cell (p := ⟨Bk, ok + 3, none⟩) lk1).trans yk1, (hW.cell (p := ⟨Bs, os, none⟩) ls0).trans xs0, (hW.cell (p := ⟨Bs, os + 1, none⟩) ls0).trans ys0, (hW.cell (p := ⟨Bs, os + 2, none⟩) ls1).trans xs1, (hW.cell (p := ⟨Bs, os + 3, none⟩) ls1).trans ys1⟩)
  clear xb0 yb0 xc0 yc0 xc1 yc1 xc2 yc2 xk0 yk0 xk1 yk1 xs0 ys0 xs1 ys1 qb0 qc0 qc1 qc2 qk0 qk1 qs0 qs1 lb0 lc0 lc1 lc2 lk0 lk1 ls0 ls1
  simp only [List.append_eq, List.cons_append, List.nil_append]
  (try simp only [List.append_eq, List.cons_append, List.nil_append])
  refine wp_region_noPanic ?_
  refine wp_region_held_drew (S := fun w' => w'.cell? ⟨Bb, ob, none⟩ = some (.int .i64 1) ∧ w'.cell? ⟨Bb, ob + 1, none⟩ = some (.slice tb0 1 ub0) ∧ w'.cell? ⟨Bc, oc, none⟩ = some (.int .i64 0) ∧ w'.cell? ⟨Bc, oc + 1, none⟩ = some (.slice tc0 1 uc0) ∧ w'.cell? ⟨Bc, oc + 2, none⟩ = some (.int .i64 1) ∧ w'.cell? ⟨Bc, oc + 3, none⟩ = some (.slice tc1 1 uc1) ∧ w'.cell? ⟨Bc, oc + 4, none⟩ = some (.int .i64 2) ∧ w'.cell? ⟨Bc, oc + 5, none⟩ = some (.slice tc2 1 uc2) ∧ w'.cell? ⟨Bk, ok, none⟩ = some (.int .i64 0) ∧ w'.cell? ⟨Bk, ok + 1, none⟩ = some (.slice tk0 1 uk0) ∧ w'.cell? ⟨Bk, ok + 2, none⟩ = some (.int .i64 2) ∧ w'.cell? ⟨Bk, ok + 3, none⟩ = some (.slice tk1 1 uk1) ∧ w'.cell? ⟨Bs, os, none⟩ = some (.int .i64 0) ∧ w'.cell? ⟨Bs, os + 1, none⟩ = some (.slice ts0 1 us0) ∧ w'.cell? ⟨Bs, os + 2, none⟩ = some (.int .i64 1) ∧ w'.cell? ⟨Bs, os + 3, none⟩ = some (.slice ts1 1 us1)) (by as_aux_lemma => kernel_rfl) ?_ (fun hHeld => ?_)
  · exact (KC (Below.drew (Below.refl _ _))).out
  obtain ⟨w6, hw6⟩ : ∃ w6, w6 = w5.drew := ⟨_, rfl⟩
  have hb6 : Below w5.heap.size w5 w6 := by rw [hw6]; exact Seq.way
  rw [← hw6] at hHeld ⊢
  have z6 := hb6.size
  clear hw6
  refine wpAnyH_take1 (i := 0) (oi := _) (v := ?_) (by as_aux_lemma => kernel_rfl) rfl (by as_aux_lemma => kernel_rfl) (fun _ _ _ h => h) (Or.inl ⟨by rfl, ?_⟩) (by assumption) ?_
  rotate_left 1
  · intro w hSw; (try dsimp only at hSw); go_simp; (with_reducible rfl)
  (try simp only [Act.put, List.getElem_toArray, List.getElem_cons_zero, List.setIfInBounds_toArray, List.set_cons_zero, List.set_cons_succ])
  refine wpAnyH_take1 (i := 1) (oi := _) (v := ?_) (by as_aux_lemma => kernel_rfl) rfl (by as_aux_lemma => kernel_rfl) (fun _ _ _ h => h) (Or.inl ⟨by rfl, ?_⟩) (by assumption) ?_
  rotate_left 1
  · intro w hSw; (try dsimp only at hSw); go_simp; (with_reducible rfl)
  (try simp only [Act.put, List.getElem_toArray, List.getElem_cons_zero, List.getElem_cons_succ, List.setIfInBounds_toArray, List.set_cons_zero, List.set_cons_succ])
  refine wpAnyH_take1 (i := 2) (oi := _) (v := ?_) (by as_aux_lemma => kernel_rfl) rfl (by as_aux_lemma => kernel_rfl) (fun _ _ _ h => h) (Or.inl ⟨by rfl, ?_⟩) (by assumption) ?_
  rotate_left 1
  · intro w hSw; (try dsimp only at hSw); go_simp; (with_reducible rfl)
  (try simp only [Act.put, List.getElem_toArray, List.getElem_cons_zero, List.getElem_cons_succ, List.setIfInBounds_toArray, List.set_cons_zero, List.set_cons_succ])
  refine wpAnyH_one (i := 3) (by as_aux_lemma => kernel_rfl) rfl (by rfl) fun K hK => ?_
  go_simp
  refine f_spec.mono ?_
  rintro e _ ⟨rfl, rfl⟩
  (try dsimp only)
  clear hHeld
  refine hK.out _ _ (KC Seq.way).out fun hHeld => ?_
  clear hK K
  (try simp only [Act.put, List.getElem_toArray, List.getElem_cons_zero, List.getElem_cons_succ, List.setIfInBounds_toArray, List.set_cons_zero, List.set_cons_succ])
  refine wpAnyH_one (i := 4) (by as_aux_lemma => kernel_rfl) rfl (by rfl) fun K hK => ?_
  go_simp
  refine f_spec.mono ?_
  rintro e _ ⟨rfl, rfl⟩
  (try dsimp only)
  clear hHeld
  refine hK.out _ _ (KC Seq.way).out fun hHeld => ?_
  clear hK K
  (try simp only [Act.put, List.getElem_toArray, List.getElem_cons_zero, List.getElem_cons_succ, List.setIfInBounds_toArray, List.set_cons_zero, List.set_cons_succ])
  refine wpAnyH_one (i := 5) (by as_aux_lemma => kernel_rfl) rfl (by rfl) fun K hK => ?_
  go_simp
  refine v_spec.mono ?_
  rintro e _ ⟨rfl, rfl⟩
  (try dsimp only)
  clear hHeld
  refine hK.out _ _ (KC Seq.way).out fun hHeld => ?_
  clear hK K
  (try simp only [Act.put, List.getElem_toArray, List.getElem_cons_zero, List.getElem_cons_succ, List.setIfInBounds_toArray, List.set_cons_zero, List.set_cons_succ])
  refine wpAnyH_one (i := 6) (by as_aux_lemma => kernel_rfl) rfl (by rfl) fun K hK => ?_
  go_simp
  refine v_spec.mono ?_
  rintro e _ ⟨rfl, rfl⟩
  (try dsimp only)
  clear hHeld
  refine hK.out _ _ (KC Seq.way).out fun hHeld => ?_
  clear hK K
  (try simp only [Act.put, List.getElem_toArray, List.getElem_cons_zero, List.getElem_cons_succ, List.setIfInBounds_toArray, List.set_cons_zero, List.set_cons_succ])
  refine wpAnyH_one (i := 7) (by as_aux_lemma => kernel_rfl) rfl (by rfl) fun K hK => ?_
  go_simp
  skip
  (try dsimp only)
  clear hHeld
  refine hK.out _ _ (KC Seq.way).out fun hHeld => ?_
  clear hK K
  (try simp only [Act.put, List.getElem_toArray, List.getElem_cons_zero, List.getElem_cons_succ, List.setIfInBounds_toArray, List.set_cons_zero, List.set_cons_succ])
  refine wpAnyH_one (i := 8) (by as_aux_lemma => kernel_rfl) rfl (by rfl) fun K hK => ?_
  go_simp
  refine (SameT_spec (T := fun _ => True) (a := [fC ⟨#[102]⟩ 2, fC ⟨#[103]⟩ 1, vC 1, vC 1]) (b := [fC ⟨#[102]⟩ 2, fC ⟨#[103]⟩ 1, vC 1, vC 1]) (HA.out.at Seq.way) ?_).mono ?_
  · exact FlatE.seq (S := fun _ => True) (l := [fC ⟨#[102]⟩ 2, fC ⟨#[103]⟩ 1, vC 1, vC 1]) (Row.new _ [.int .i64 3, .string ⟨#[102]⟩, .int .i64 2, .int .i64 3, .string ⟨#[103]⟩, .int .i64 1, .int .i64 1, .string ⟨#[]⟩, .int .i64 1, .int .i64 1, .string ⟨#[]⟩, .int .i64 1] _ (by simp)) ((((flatC (okF (by decide) (by decide))).append (flatC (okF (by decide) (by decide)))).append (flatC (okV (by decide)))).append (flatC (okV (by decide)))) trivial rfl (by decide)
  rintro e w7 ⟨rfl, hq⟩
  have hb7 := below_step (hq.below _) (Seq.way : Below w5.heap.size w5 _)
  have z7 := hb7.size
  rw [decide_eq_true (show [fC ⟨#[102]⟩ 2, fC ⟨#[103]⟩ 1, vC 1, vC 1] = [fC ⟨#[102]⟩ 2, fC ⟨#[103]⟩ 1, vC 1, vC 1] from rfl)]
  (try dsimp only)
  clear hHeld
  refine hK.out _ _ (KC hb7).out fun hHeld => ?_
  clear hK K
  (try simp only [Act.put, List.getElem_toArray, List.getElem_cons_zero, List.getElem_cons_succ, List.setIfInBounds_toArray, List.set_cons_zero, List.set_cons_succ])
  refine wpAnyH_take1 (i := 9) (oi := _) (v := ?_) (by as_aux_lemma => kernel_rfl) rfl (by as_aux_lemma => kernel_rfl) (fun _ _ _ h => h) (Or.inl ⟨by rfl, ?_⟩) (by assumption) ?_
  rotate_left 1
  · intro w hSw; (try dsimp only at hSw); go_simp; (with_reducible rfl)
  (try simp only [Act.put, List.getElem_toArray, List.getElem_cons_zero, List.getElem_cons_succ, List.setIfInBounds_toArray, List.set_cons_zero, List.set_cons_succ])
  refine wpAnyH_take1 (i := 10) (oi := _) (v := ?_) (by as_aux_lemma => kernel_rfl) rfl (by as_aux_lemma => kernel_rfl) (fun _ _ _ h => h) (Or.inl ⟨by rfl, ?_⟩) (by assumption) ?_
  rotate_left 1
  · intro w hSw; (try dsimp only at hSw); go_simp; (with_reducible rfl)
  (try simp only [Act.put, List.getElem_toArray, List.getElem_cons_zero, List.getElem_cons_succ, List.setIfInBounds_toArray, List.set_cons_zero, List.set_cons_succ])
  refine wpAnyH_take1 (i := 11) (oi := _) (v := ?_) (by as_aux_lemma => kernel_rfl) rfl (by as_aux_lemma => kernel_rfl) (fun _ _ _ h => h) (Or.inl ⟨by rfl, ?_⟩) (by assumption) ?_
  rotate_left 1
  · intro w hSw; (try dsimp only at hSw); go_simp; (with_reducible rfl)
  (try simp only [Act.put, List.getElem_toArray, List.getElem_cons_zero, List.getElem_cons_succ, List.setIfInBounds_toArray, List.set_cons_zero, List.set_cons_succ])
  refine wpAnyH_take1 (i := 12) (oi := _) (v := ?_) (by as_aux_lemma => kernel_rfl) rfl (by as_aux_lemma => kernel_rfl) (fun _ _ _ h => h) (Or.inl ⟨by rfl, ?_⟩) (by assumption) ?_
  rotate_left 1
  · intro w hSw; (try dsimp only at hSw); go_simp; (with_reducible rfl)
  (try simp only [Act.put, List.getElem_toArray, List.getElem_cons_zero, List.getElem_cons_succ, List.setIfInBounds_toArray, List.set_cons_zero, List.set_cons_succ])
  refine wpAnyH_take1 (i := 13) (oi := _) (v := ?_) (by as_aux_lemma => kernel_rfl) rfl (by as_aux_lemma => kernel_rfl) (fun _ _ _ h => h) (Or.inl ⟨by rfl, ?_⟩) (by assumption) ?_
  rotate_left 1
  · intro w hSw; (try dsimp only at hSw); go_simp; (with_reducible rfl)
  (try simp only [Act.put, List.getElem_toArray, List.getElem_cons_zero, List.getElem_cons_succ, List.setIfInBounds_toArray, List.set_cons_zero, List.set_cons_succ])
  refine wpAnyH_take1 (i := 14) (oi := _) (v := ?_) (by as_aux_lemma => kernel_rfl) rfl (by as_aux_lemma => kernel_rfl) (fun _ _ _ h => h) (Or.inl ⟨by rfl, ?_⟩) (by assumption) ?_
  rotate_left 1
  · intro w hSw; (try dsimp only at hSw); go_simp; (with_reducible rfl)
  (try simp only [Act.put, List.getElem_toArray, List.getElem_cons_zero, List.getElem_cons_succ, List.setIfInBounds_toArray, List.set_cons_zero, List.set_cons_succ])
  refine wpAnyH_take1 (i := 15) (oi := _) (v := ?_) (by as_aux_lemma => kernel_rfl) rfl (by as_aux_lemma => kernel_rfl) (fun _ _ _ h => h) (Or.inl ⟨by rfl, ?_⟩) (by assumption) ?_
  rotate_left 1
  · intro w hSw; (try dsimp only at hSw); go_simp; (with_reducible rfl)
  (try simp only [Act.put, List.getElem_toArray, List.getElem_cons_zero, List.getElem_cons_succ, List.setIfInBounds_toArray, List.set_cons_zero, List.set_cons_succ])
  refine wpAnyH_take1 (i := 16) (oi := _) (v := ?_) (by as_aux_lemma => kernel_rfl) rfl (by as_aux_lemma => kernel_rfl) (fun _ _ _ h => h) (Or.inl ⟨by rfl, ?_⟩) (by assumption) ?_
  rotate_left 1
  · intro w hSw; (try dsimp only at hSw); go_simp; (with_reducible rfl)
  (try simp only [Act.put, List.getElem_toArray, List.getElem_cons_zero, List.getElem_cons_succ, List.setIfInBounds_toArray, List.set_cons_zero, List.set_cons_succ])
  refine wpAnyH_take1 (i := 17) (oi := _) (v := ?_) (by as_aux_lemma => kernel_rfl) rfl (by as_aux_lemma => kernel_rfl) (fun _ _ _ h => h) (Or.inl ⟨by rfl, ?_⟩) (by assumption) ?_
  rotate_left 1
  · intro w hSw; (try dsimp only at hSw); go_simp; (with_reducible rfl)
  (try simp only [Act.put, List.getElem_toArray, List.getElem_cons_zero, List.getElem_cons_succ, List.setIfInBounds_toArray, List.set_cons_zero, List.set_cons_succ])
  refine wpAnyH_take1 (i := 18) (oi := _) (v := ?_) (by as_aux_lemma => kernel_rfl) rfl (by as_aux_lemma => kernel_rfl) (fun _ _ _ h => h) (Or.inl ⟨by rfl, ?_⟩) (by assumption) ?_
  rotate_left 1
  · intro w hSw; (try dsimp only at hSw); go_simp; (with_reducible rfl)
  (try simp only [Act.put, List.getElem_toArray, List.getElem_cons_zero, List.getElem_cons_succ, List.setIfInBounds_toArray, List.set_cons_zero, List.set_cons_succ])
  refine wpAnyH_take1 (i := 19) (oi := _) (v := ?_) (by as_aux_lemma => kernel_rfl) rfl (by as_aux_lemma => kernel_rfl) (fun _ _ _ h => h) (Or.inl ⟨by rfl, ?_⟩) (by assumption) ?_
  rotate_left 1
  · intro w hSw; (try dsimp only at hSw); go_simp; (with_reducible rfl)
  (try simp only [Act.put, List.getElem_toArray, List.getElem_cons_zero, List.getElem_cons_succ, List.setIfInBounds_toArray, List.set_cons_zero, List.set_cons_succ])
  refine wpAnyH_take1 (i := 20) (oi := _) (v := ?_) (by as_aux_lemma => kernel_rfl) rfl (by as_aux_lemma => kernel_rfl) (fun _ _ _ h => h) (Or.inl ⟨by rfl, ?_⟩) (by assumption) ?_
  rotate_left 1
  · intro w hSw; (try dsimp only at hSw); go_simp; (with_reducible rfl)
  (try simp only [Act.put, List.getElem_toArray, List.getElem_cons_zero, List.getElem_cons_succ, List.setIfInBounds_toArray, List.set_cons_zero, List.set_cons_succ])
  refine wpAnyH_take1 (i := 21) (oi := _) (v := ?_) (by as_aux_lemma => kernel_rfl) rfl (by as_aux_lemma => kernel_rfl) (fun _ _ _ h => h) (Or.inl ⟨by rfl, ?_⟩) (by assumption) ?_
  rotate_left 1
  · intro w hSw; (try dsimp only at hSw); go_simp; (with_reducible rfl)
  (try simp only [Act.put, List.getElem_toArray, List.getElem_cons_zero, List.getElem_cons_succ, List.setIfInBounds_toArray, List.set_cons_zero, List.set_cons_succ])
  refine wpAnyH_take1 (i := 22) (oi := _) (v := ?_) (by as_aux_lemma => kernel_rfl) rfl (by as_aux_lemma => kernel_rfl) (fun _ _ _ h => h) (Or.inl ⟨by rfl, ?_⟩) (by assumption) ?_
  rotate_left 1
  · intro w hSw; (try dsimp only at hSw); go_simp; (with_reducible rfl)
  (try simp only [Act.put, List.getElem_toArray, List.getElem_cons_zero, List.getElem_cons_succ, List.setIfInBounds_toArray, List.set_cons_zero, List.set_cons_succ])
  refine wpAnyH_take1 (i := 23) (oi := _) (v := ?_) (by as_aux_lemma => kernel_rfl) rfl (by as_aux_lemma => kernel_rfl) (fun _ _ _ h => h) (Or.inl ⟨by rfl, ?_⟩) (by assumption) ?_
  rotate_left 1
  · intro w hSw; (try dsimp only at hSw); go_simp; (with_reducible rfl)
  (try simp only [Act.put, List.getElem_toArray, List.getElem_cons_zero, List.getElem_cons_succ, List.setIfInBounds_toArray, List.set_cons_zero, List.set_cons_succ])
  refine wpAnyH_take1 (i := 24) (oi := _) (v := ?_) (by as_aux_lemma => kernel_rfl) rfl (by as_aux_lemma => kernel_rfl) (fun _ _ _ h => h) (Or.inl ⟨by rfl, ?_⟩) (by assumption) ?_
  rotate_left 1
  · intro w hSw; (try dsimp only at hSw); go_simp; (with_reducible rfl)
  (try simp only [Act.put, List.getElem_toArray, List.getElem_cons_zero, List.getElem_cons_succ, List.setIfInBounds_toArray, List.set_cons_zero, List.set_cons_succ])
  refine wpAnyH_one (i := 25) (by as_aux_lemma => kernel_rfl) rfl (by rfl) fun K hK => ?_
  go_simp
  refine v_spec.mono ?_
  rintro e _ ⟨rfl, rfl⟩
  (try dsimp only)
  clear hHeld
  refine hK.out _ _ (KC Seq.way).out fun hHeld => ?_
  clear hK K
  (try simp only [Act.put, List.getElem_toArray, List.getElem_cons_zero, List.getElem_cons_succ, List.setIfInBounds_toArray, List.set_cons_zero, List.set_cons_succ])
  refine wpAnyH_one (i := 26) (by as_aux_lemma => kernel_rfl) rfl (by rfl) fun K hK => ?_
  go_simp
  skip
  (try dsimp only)
  clear hHeld
  refine hK.out _ _ (KC Seq.way).out fun hHeld => ?_
  clear hK K
  (try simp only [Act.put, List.getElem_toArray, List.getElem_cons_zero, List.getElem_cons_succ, List.setIfInBounds_toArray, List.set_cons_zero, List.set_cons_succ])
  refine wpAnyH_one (i := 27) (by as_aux_lemma => kernel_rfl) rfl (by rfl) fun K hK => ?_
  go_simp
  refine (SameT_spec (T := fun _ => True) (a := [vC 0]) (b := [vC 0]) (Qb0.out.at Seq.way) ?_).mono ?_
  · exact FlatE.seq (S := fun _ => True) (l := [vC 0]) (Row.new _ [.int .i64 1, .string ⟨#[]⟩, .int .i64 0] _ (by simp)) (flatC (okV (by decide))) trivial rfl (by decide)
  rintro e w8 ⟨rfl, hq⟩
  have hb8 := below_step (hq.below _) (Seq.way : Below w5.heap.size w5 _)
  have z8 := hb8.size
  rw [decide_eq_true (show [vC 0] = [vC 0] from rfl)]
  (try dsimp only)
  clear hHeld
  refine hK.out _ _ (KC hb8).out fun hHeld => ?_
  clear hK K
  (try simp only [Act.put, List.getElem_toArray, List.getElem_cons_zero, List.getElem_cons_succ, List.setIfInBounds_toArray, List.set_cons_zero, List.set_cons_succ])
  refine wpAnyH_take1 (i := 28) (oi := _) (v := ?_) (by as_aux_lemma => kernel_rfl) rfl (by as_aux_lemma => kernel_rfl) (fun _ _ _ h => h) (Or.inl ⟨by rfl, ?_⟩) (by assumption) ?_
  rotate_left 1
  · intro w hSw; (try dsimp only at hSw); go_simp; (with_reducible rfl)
  (try simp only [Act.put, List.getElem_toArray, List.getElem_cons_zero, List.getElem_cons_succ, List.setIfInBounds_toArray, List.set_cons_zero, List.set_cons_succ])
  refine wpAnyH_take1 (i := 29) (oi := _) (v := ?_) (by as_aux_lemma => kernel_rfl) rfl (by as_aux_lemma => kernel_rfl) (fun _ _ _ h => h) (Or.inl ⟨by rfl, ?_⟩) (by assumption) ?_
  rotate_left 1
  · intro w hSw; (try dsimp only at hSw); go_simp; (with_reducible rfl)
  (try simp only [Act.put, List.getElem_toArray, List.getElem_cons_zero, List.getElem_cons_succ, List.setIfInBounds_toArray, List.set_cons_zero, List.set_cons_succ])
  refine wpAnyH_take1 (i := 30) (oi := _) (v := ?_) (by as_aux_lemma => kernel_rfl) rfl (by as_aux_lemma => kernel_rfl) (fun _ _ _ h => h) (Or.inl ⟨by rfl, ?_⟩) (by assumption) ?_
  rotate_left 1
  · intro w hSw; (try dsimp only at hSw); go_simp; (with_reducible rfl)
  (try simp only [Act.put, List.getElem_toArray, List.getElem_cons_zero, List.getElem_cons_succ, List.setIfInBounds_toArray, List.set_cons_zero, List.set_cons_succ])
  refine wpAnyH_take1 (i := 31) (oi := _) (v := ?_) (by as_aux_lemma => kernel_rfl) rfl (by as_aux_lemma => kernel_rfl) (fun _ _ _ h => h) (Or.inl ⟨by rfl, ?_⟩) (by assumption) ?_
  rotate_left 1
  · intro w hSw; (try dsimp only at hSw); go_simp; (with_reducible rfl)
  (try simp only [Act.put, List.getElem_toArray, List.getElem_cons_zero, List.getElem_cons_succ, List.setIfInBounds_toArray, List.set_cons_zero, List.set_cons_succ])
  refine wpAnyH_take1 (i := 32) (oi := _) (v := ?_) (by as_aux_lemma => kernel_rfl) rfl (by as_aux_lemma => kernel_rfl) (fun _ _ _ h => h) (Or.inl ⟨by rfl, ?_⟩) (by assumption) ?_
  rotate_left 1
  · intro w hSw; (try dsimp only at hSw); go_simp; (with_reducible rfl)
  (try simp only [Act.put, List.getElem_toArray, List.getElem_cons_zero, List.getElem_cons_succ, List.setIfInBounds_toArray, List.set_cons_zero, List.set_cons_succ])
  refine wpAnyH_take1 (i := 33) (oi := _) (v := ?_) (by as_aux_lemma => kernel_rfl) rfl (by as_aux_lemma => kernel_rfl) (fun _ _ _ h => h) (Or.inl ⟨by rfl, ?_⟩) (by assumption) ?_
  rotate_left 1
  · intro w hSw; (try dsimp only at hSw); go_simp; (with_reducible rfl)
  (try simp only [Act.put, List.getElem_toArray, List.getElem_cons_zero, List.getElem_cons_succ, List.setIfInBounds_toArray, List.set_cons_zero, List.set_cons_succ])
  refine wpAnyH_take1 (i := 34) (oi := _) (v := ?_) (by as_aux_lemma => kernel_rfl) rfl (by as_aux_lemma => kernel_rfl) (fun _ _ _ h => h) (Or.inl ⟨by rfl, ?_⟩) (by assumption) ?_
  rotate_left 1
  · intro w hSw; (try dsimp only at hSw); go_simp; (with_reducible rfl)
  (try simp only [Act.put, List.getElem_toArray, List.getElem_cons_zero, List.getElem_cons_succ, List.setIfInBounds_toArray, List.set_cons_zero, List.set_cons_succ])
  refine wpAnyH_take1 (i := 35) (oi := _) (v := ?_) (by as_aux_lemma => kernel_rfl) rfl (by as_aux_lemma => kernel_rfl) (fun _ _ _ h => h) (Or.inl ⟨by rfl, ?_⟩) (by assumption) ?_
  rotate_left 1
  · intro w hSw; (try dsimp only at hSw); go_simp; (with_reducible rfl)
  (try simp only [Act.put, List.getElem_toArray, List.getElem_cons_zero, List.getElem_cons_succ, List.setIfInBounds_toArray, List.set_cons_zero, List.set_cons_succ])
  refine wpAnyH_take1 (i := 36) (oi := _) (v := ?_) (by as_aux_lemma => kernel_rfl) rfl (by as_aux_lemma => kernel_rfl) (fun _ _ _ h => h) (Or.inl ⟨by rfl, ?_⟩) (by assumption) ?_
  rotate_left 1
  · intro w hSw; (try dsimp only at hSw); go_simp; (with_reducible rfl)
  (try simp only [Act.put, List.getElem_toArray, List.getElem_cons_zero, List.getElem_cons_succ, List.setIfInBounds_toArray, List.set_cons_zero, List.set_cons_succ])
  refine wpAnyH_take1 (i := 37) (oi := _) (v := ?_) (by as_aux_lemma => kernel_rfl) rfl (by as_aux_lemma => kernel_rfl) (fun _ _ _ h => h) (Or.inl ⟨by rfl, ?_⟩) (by assumption) ?_
  rotate_left 1
  · intro w hSw; (try dsimp only at hSw); go_simp; (with_reducible rfl)
  (try simp only [Act.put, List.getElem_toArray, List.getElem_cons_zero, List.getElem_cons_succ, List.setIfInBounds_toArray, List.set_cons_zero, List.set_cons_succ])
  refine wpAnyH_take1 (i := 38) (oi := _) (v := ?_) (by as_aux_lemma => kernel_rfl) rfl (by as_aux_lemma => kernel_rfl) (fun _ _ _ h => h) (Or.inl ⟨by rfl, ?_⟩) (by assumption) ?_
  rotate_left 1
  · intro w hSw; (try dsimp only at hSw); go_simp; (with_reducible rfl)
  (try simp only [Act.put, List.getElem_toArray, List.getElem_cons_zero, List.getElem_cons_succ, List.setIfInBounds_toArray, List.set_cons_zero, List.set_cons_succ])
  refine wpAnyH_take1 (i := 39) (oi := _) (v := ?_) (by as_aux_lemma => kernel_rfl) rfl (by as_aux_lemma => kernel_rfl) (fun _ _ _ h => h) (Or.inl ⟨by rfl, ?_⟩) (by assumption) ?_
  rotate_left 1
  · intro w hSw; (try dsimp only at hSw); go_simp; (with_reducible rfl)
  (try simp only [Act.put, List.getElem_toArray, List.getElem_cons_zero, List.getElem_cons_succ, List.setIfInBounds_toArray, List.set_cons_zero, List.set_cons_succ])
  refine wpAnyH_take1 (i := 40) (oi := _) (v := ?_) (by as_aux_lemma => kernel_rfl) rfl (by as_aux_lemma => kernel_rfl) (fun _ _ _ h => h) (Or.inl ⟨by rfl, ?_⟩) (by assumption) ?_
  rotate_left 1
  · intro w hSw; (try dsimp only at hSw); go_simp; (with_reducible rfl)
  (try simp only [Act.put, List.getElem_toArray, List.getElem_cons_zero, List.getElem_cons_succ, List.setIfInBounds_toArray, List.set_cons_zero, List.set_cons_succ])
  refine wpAnyH_take1 (i := 41) (oi := _) (v := ?_) (by as_aux_lemma => kernel_rfl) rfl (by as_aux_lemma => kernel_rfl) (fun _ _ _ h => h) (Or.inl ⟨by rfl, ?_⟩) (by assumption) ?_
  rotate_left 1
  · intro w hSw; (try dsimp only at hSw); go_simp; (with_reducible rfl)
  (try simp only [Act.put, List.getElem_toArray, List.getElem_cons_zero, List.getElem_cons_succ, List.setIfInBounds_toArray, List.set_cons_zero, List.set_cons_succ])
  refine wpAnyH_take1 (i := 42) (oi := _) (v := ?_) (by as_aux_lemma => kernel_rfl) rfl (by as_aux_lemma => kernel_rfl) (fun _ _ _ h => h) (Or.inl ⟨by rfl, ?_⟩) (by assumption) ?_
  rotate_left 1
  · intro w hSw; (try dsimp only at hSw); go_simp; (with_reducible rfl)
  (try simp only [Act.put, List.getElem_toArray, List.getElem_cons_zero, List.getElem_cons_succ, List.setIfInBounds_toArray, List.set_cons_zero, List.set_cons_succ])
  refine wpAnyH_take1 (i := 43) (oi := _) (v := ?_) (by as_aux_lemma => kernel_rfl) rfl (by as_aux_lemma => kernel_rfl) (fun _ _ _ h => h) (Or.inl ⟨by rfl, ?_⟩) (by assumption) ?_
  rotate_left 1
  · intro w hSw; (try dsimp only at hSw); go_simp; (with_reducible rfl)
  (try simp only [Act.put, List.getElem_toArray, List.getElem_cons_zero, List.getElem_cons_succ, List.setIfInBounds_toArray, List.set_cons_zero, List.set_cons_succ])
  refine wpAnyH_one (i := 44) (by as_aux_lemma => kernel_rfl) rfl (by rfl) fun K hK => ?_
  go_simp
  refine v_spec.mono ?_
  rintro e _ ⟨rfl, rfl⟩
  (try dsimp only)
  clear hHeld
  refine hK.out _ _ (KC Seq.way).out fun hHeld => ?_
  clear hK K
  (try simp only [Act.put, List.getElem_toArray, List.getElem_cons_zero, List.getElem_cons_succ, List.setIfInBounds_toArray, List.set_cons_zero, List.set_cons_succ])
  refine wpAnyH_one (i := 45) (by as_aux_lemma => kernel_rfl) rfl (by rfl) fun K hK => ?_
  go_simp
  skip
  (try dsimp only)
  clear hHeld
  refine hK.out _ _ (KC Seq.way).out fun hHeld => ?_
  clear hK K
  (try simp only [Act.put, List.getElem_toArray, List.getElem_cons_zero, List.getElem_cons_succ, List.setIfInBounds_toArray, List.set_cons_zero, List.set_cons_succ])
  refine wpAnyH_one (i := 46) (by as_aux_lemma => kernel_rfl) rfl (by rfl) fun K hK => ?_
  go_simp
  refine (SameT_spec (T := fun _ => True) (a := [vC 1]) (b := [vC 1]) (Qc0.out.at Seq.way) ?_).mono ?_
  · exact FlatE.seq (S := fun _ => True) (l := [vC 1]) (Row.new _ [.int .i64 1, .string ⟨#[]⟩, .int .i64 1] _ (by simp)) (flatC (okV (by decide))) trivial rfl (by decide)
  rintro e w9 ⟨rfl, hq⟩
  have hb9 := below_step (hq.below _) (Seq.way : Below w5.heap.size w5 _)
  have z9 := hb9.size
  rw [decide_eq_true (show [vC 1] = [vC 1] from rfl)]
  (try dsimp only)
  clear hHeld
  refine hK.out _ _ (KC hb9).out fun hHeld => ?_
  clear hK K
  (try simp only [Act.put, List.getElem_toArray, List.getElem_cons_zero, List.getElem_cons_succ, List.setIfInBounds_toArray, List.set_cons_zero, List.set_cons_succ])
  refine wpAnyH_take1 (i := 47) (oi := _) (v := ?_) (by as_aux_lemma => kernel_rfl) rfl (by as_aux_lemma => kernel_rfl) (fun _ _ _ h => h) (Or.inl ⟨by rfl, ?_⟩) (by assumption) ?_
  rotate_left 1
  · intro w hSw; (try dsimp only at hSw); go_simp; (with_reducible rfl)
  (try simp only [Act.put, List.getElem_toArray, List.getElem_cons_zero, List.getElem_cons_succ, List.setIfInBounds_toArray, List.set_cons_zero, List.set_cons_succ])
  refine wpAnyH_take1 (i := 48) (oi := _) (v := ?_) (by as_aux_lemma => kernel_rfl) rfl (by as_aux_lemma => kernel_rfl) (fun _ _ _ h => h) (Or.inl ⟨by rfl, ?_⟩) (by assumption) ?_
  rotate_left 1
  · intro w hSw; (try dsimp only at hSw); go_simp; (with_reducible rfl)
  (try simp only [Act.put, List.getElem_toArray, List.getElem_cons_zero, List.getElem_cons_succ, List.setIfInBounds_toArray, List.set_cons_zero, List.set_cons_succ])
  refine wpAnyH_take1 (i := 49) (oi := _) (v := ?_) (by as_aux_lemma => kernel_rfl) rfl (by as_aux_lemma => kernel_rfl) (fun _ _ _ h => h) (Or.inl ⟨by rfl, ?_⟩) (by assumption) ?_
  rotate_left 1
  · intro w hSw; (try dsimp only at hSw); go_simp; (with_reducible rfl)
  (try simp only [Act.put, List.getElem_toArray, List.getElem_cons_zero, List.getElem_cons_succ, List.setIfInBounds_toArray, List.set_cons_zero, List.set_cons_succ])
  refine wpAnyH_take1 (i := 50) (oi := _) (v := ?_) (by as_aux_lemma => kernel_rfl) rfl (by as_aux_lemma => kernel_rfl) (fun _ _ _ h => h) (Or.inl ⟨by rfl, ?_⟩) (by assumption) ?_
  rotate_left 1
  · intro w hSw; (try dsimp only at hSw); go_simp; (with_reducible rfl)
  (try simp only [Act.put, List.getElem_toArray, List.getElem_cons_zero, List.getElem_cons_succ, List.setIfInBounds_toArray, List.set_cons_zero, List.set_cons_succ])
  refine wpAnyH_take1 (i := 51) (oi := _) (v := ?_) (by as_aux_lemma => kernel_rfl) rfl (by as_aux_lemma => kernel_rfl) (fun _ _ _ h => h) (Or.inl ⟨by rfl, ?_⟩) (by assumption) ?_
  rotate_left 1
  · intro w hSw; (try dsimp only at hSw); go_simp; (with_reducible rfl)
  (try simp only [Act.put, List.getElem_toArray, List.getElem_cons_zero, List.getElem_cons_succ, List.setIfInBounds_toArray, List.set_cons_zero, List.set_cons_succ])
  refine wpAnyH_take1 (i := 52) (oi := _) (v := ?_) (by as_aux_lemma => kernel_rfl) rfl (by as_aux_lemma => kernel_rfl) (fun _ _ _ h => h) (Or.inl ⟨by rfl, ?_⟩) (by assumption) ?_
  rotate_left 1
  · intro w hSw; (try dsimp only at hSw); go_simp; (with_reducible rfl)
  (try simp only [Act.put, List.getElem_toArray, List.getElem_cons_zero, List.getElem_cons_succ, List.setIfInBounds_toArray, List.set_cons_zero, List.set_cons_succ])
  refine wpAnyH_take1 (i := 53) (oi := _) (v := ?_) (by as_aux_lemma => kernel_rfl) rfl (by as_aux_lemma => kernel_rfl) (fun _ _ _ h => h) (Or.inl ⟨by rfl, ?_⟩) (by assumption) ?_
  rotate_left 1
  · intro w hSw; (try dsimp only at hSw); go_simp; (with_reducible rfl)
  (try simp only [Act.put, List.getElem_toArray, List.getElem_cons_zero, List.getElem_cons_succ, List.setIfInBounds_toArray, List.set_cons_zero, List.set_cons_succ])
  refine wpAnyH_take1 (i := 54) (oi := _) (v := ?_) (by as_aux_lemma => kernel_rfl) rfl (by as_aux_lemma => kernel_rfl) (fun _ _ _ h => h) (Or.inl ⟨by rfl, ?_⟩) (by assumption) ?_
  rotate_left 1
  · intro w hSw; (try dsimp only at hSw); go_simp; (with_reducible rfl)
  (try simp only [Act.put, List.getElem_toArray, List.getElem_cons_zero, List.getElem_cons_succ, List.setIfInBounds_toArray, List.set_cons_zero, List.set_cons_succ])
  refine wpAnyH_take1 (i := 55) (oi := _) (v := ?_) (by as_aux_lemma => kernel_rfl) rfl (by as_aux_lemma => kernel_rfl) (fun _ _ _ h => h) (Or.inl ⟨by rfl, ?_⟩) (by assumption) ?_
  rotate_left 1
  · intro w hSw; (try dsimp only at hSw); go_simp; (with_reducible rfl)
  (try simp only [Act.put, List.getElem_toArray, List.getElem_cons_zero, List.getElem_cons_succ, List.setIfInBounds_toArray, List.set_cons_zero, List.set_cons_succ])
  refine wpAnyH_take1 (i := 56) (oi := _) (v := ?_) (by as_aux_lemma => kernel_rfl) rfl (by as_aux_lemma => kernel_rfl) (fun _ _ _ h => h) (Or.inl ⟨by rfl, ?_⟩) (by assumption) ?_
  rotate_left 1
  · intro w hSw; (try dsimp only at hSw); go_simp; (with_reducible rfl)
  (try simp only [Act.put, List.getElem_toArray, List.getElem_cons_zero, List.getElem_cons_succ, List.setIfInBounds_toArray, List.set_cons_zero, List.set_cons_succ])
  refine wpAnyH_take1 (i := 57) (oi := _) (v := ?_) (by as_aux_lemma => kernel_rfl) rfl (by as_aux_lemma => kernel_rfl) (fun _ _ _ h => h) (Or.inl ⟨by rfl, ?_⟩) (by assumption) ?_
  rotate_left 1
  · intro w hSw; (try dsimp only at hSw); go_simp; (with_reducible rfl)
  (try simp only [Act.put, List.getElem_toArray, List.getElem_cons_zero, List.getElem_cons_succ, List.setIfInBounds_toArray, List.set_cons_zero, List.set_cons_succ])
  refine wpAnyH_take1 (i := 58) (oi := _) (v := ?_) (by as_aux_lemma => kernel_rfl) rfl (by as_aux_lemma => kernel_rfl) (fun _ _ _ h => h) (Or.inl ⟨by rfl, ?_⟩) (by assumption) ?_
  rotate_left 1
  · intro w hSw; (try dsimp only at hSw); go_simp; (with_reducible rfl)
  (try simp only [Act.put, List.getElem_toArray, List.getElem_cons_zero, List.getElem_cons_succ, List.setIfInBounds_toArray, List.set_cons_zero, List.set_cons_succ])
  refine wpAnyH_take1 (i := 59) (oi := _) (v := ?_) (by as_aux_lemma => kernel_rfl) rfl (by as_aux_lemma => kernel_rfl) (fun _ _ _ h => h) (Or.inl ⟨by rfl, ?_⟩) (by assumption) ?_
  rotate_left 1
  · intro w hSw; (try dsimp only at hSw); go_simp; (with_reducible rfl)
  (try simp only [Act.put, List.getElem_toArray, List.getElem_cons_zero, List.getElem_cons_succ, List.setIfInBounds_toArray, List.set_cons_zero, List.set_cons_succ])
  refine wpAnyH_one (i := 60) (by as_aux_lemma => kernel_rfl) rfl (by rfl) fun K hK => ?_
  go_simp
  refine v_spec.mono ?_
  rintro e _ ⟨rfl, rfl⟩
  (try dsimp only)
  clear hHeld
  refine hK.out _ _ (KC Seq.way).out fun hHeld => ?_
  clear hK K
  (try simp only [Act.put, List.getElem_toArray, List.getElem_cons_zero, List.getElem_cons_succ, List.setIfInBounds_toArray, List.set_cons_zero, List.set_cons_succ])
  refine wpAnyH_one (i := 61) (by as_aux_lemma => kernel_rfl) rfl (by rfl) fun K hK => ?_
  go_simp
  skip
  (try dsimp only)
  clear hHeld
  refine hK.out _ _ (KC Seq.way).out fun hHeld => ?_
  clear hK K
  (try simp only [Act.put, List.getElem_toArray, List.getElem_cons_zero, List.getElem_cons_succ, List.setIfInBounds_toArray, List.set_cons_zero, List.set_cons_succ])
  refine wpAnyH_one (i := 62) (by as_aux_lemma => kernel_rfl) rfl (by rfl) fun K hK => ?_
  go_simp
  refine (SameT_spec (T := fun _ => True) (a := [vC 0]) (b := [vC 0]) (Qc1.out.at Seq.way) ?_).mono ?_
  · exact FlatE.seq (S := fun _ => True) (l := [vC 0]) (Row.new _ [.int .i64 1, .string ⟨#[]⟩, .int .i64 0] _ (by simp)) (flatC (okV (by decide))) trivial rfl (by decide)
  rintro e w10 ⟨rfl, hq⟩
  have hb10 := below_step (hq.below _) (Seq.way : Below w5.heap.size w5 _)
  have z10 := hb10.size
  rw [decide_eq_true (show [vC 0] = [vC 0] from rfl)]
  (try dsimp only)
  clear hHeld
  refine hK.out _ _ (KC hb10).out fun hHeld => ?_
  clear hK K
  (try simp only [Act.put, List.getElem_toArray, List.getElem_cons_zero, List.getElem_cons_succ, List.setIfInBounds_toArray, List.set_cons_zero, List.set_cons_succ])
  refine wpAnyH_take1 (i := 63) (oi := _) (v := ?_) (by as_aux_lemma => kernel_rfl) rfl (by as_aux_lemma => kernel_rfl) (fun _ _ _ h => h) (Or.inl ⟨by rfl, ?_⟩) (by assumption) ?_
  rotate_left 1
  · intro w hSw; (try dsimp only at hSw); go_simp; (with_reducible rfl)
  (try simp only [Act.put, List.getElem_toArray, List.getElem_cons_zero, List.getElem_cons_succ, List.setIfInBounds_toArray, List.set_cons_zero, List.set_cons_succ])
  refine wpAnyH_take1 (i := 64) (oi := _) (v := ?_) (by as_aux_lemma => kernel_rfl) rfl (by as_aux_lemma => kernel_rfl) (fun _ _ _ h => h) (Or.inl ⟨by rfl, ?_⟩) (by assumption) ?_
  rotate_left 1
  · intro w hSw; (try dsimp only at hSw); go_simp; (with_reducible rfl)
  (try simp only [Act.put, List.getElem_toArray, List.getElem_cons_zero, List.getElem_cons_succ, List.setIfInBounds_toArray, List.set_cons_zero, List.set_cons_succ])
  refine wpAnyH_take1 (i := 65) (oi := _) (v := ?_) (by as_aux_lemma => kernel_rfl) rfl (by as_aux_lemma => kernel_rfl) (fun _ _ _ h => h) (Or.inl ⟨by rfl, ?_⟩) (by assumption) ?_
  rotate_left 1
  · intro w hSw; (try dsimp only at hSw); go_simp; (with_reducible rfl)
  (try simp only [Act.put, List.getElem_toArray, List.getElem_cons_zero, List.getElem_cons_succ, List.setIfInBounds_toArray, List.set_cons_zero, List.set_cons_succ])
  refine wpAnyH_take1 (i := 66) (oi := _) (v := ?_) (by as_aux_lemma => kernel_rfl) rfl (by as_aux_lemma => kernel_rfl) (fun _ _ _ h => h) (Or.inl ⟨by rfl, ?_⟩) (by assumption) ?_
  rotate_left 1
  · intro w hSw; (try dsimp only at hSw); go_simp; (with_reducible rfl)
  (try simp only [Act.put, List.getElem_toArray, List.getElem_cons_zero, List.getElem_cons_succ, List.setIfInBounds_toArray, List.set_cons_zero, List.set_cons_succ])
  refine wpAnyH_take1 (i := 67) (oi := _) (v := ?_) (by as_aux_lemma => kernel_rfl) rfl (by as_aux_lemma => kernel_rfl) (fun _ _ _ h => h) (Or.inl ⟨by rfl, ?_⟩) (by assumption) ?_
  rotate_left 1
  · intro w hSw; (try dsimp only at hSw); go_simp; (with_reducible rfl)
  (try simp only [Act.put, List.getElem_toArray, List.getElem_cons_zero, List.getElem_cons_succ, List.setIfInBounds_toArray, List.set_cons_zero, List.set_cons_succ])
  refine wpAnyH_take1 (i := 68) (oi := _) (v := ?_) (by as_aux_lemma => kernel_rfl) rfl (by as_aux_lemma => kernel_rfl) (fun _ _ _ h => h) (Or.inl ⟨by rfl, ?_⟩) (by assumption) ?_
  rotate_left 1
  · intro w hSw; (try dsimp only at hSw); go_simp; (with_reducible rfl)
  (try simp only [Act.put, List.getElem_toArray, List.getElem_cons_zero, List.getElem_cons_succ, List.setIfInBounds_toArray, List.set_cons_zero, List.set_cons_succ])
  refine wpAnyH_take1 (i := 69) (oi := _) (v := ?_) (by as_aux_lemma => kernel_rfl) rfl (by as_aux_lemma => kernel_rfl) (fun _ _ _ h => h) (Or.inl ⟨by rfl, ?_⟩) (by assumption) ?_
  rotate_left 1
  · intro w hSw; (try dsimp only at hSw); go_simp; (with_reducible rfl)
  (try simp only [Act.put, List.getElem_toArray, List.getElem_cons_zero, List.getElem_cons_succ, List.setIfInBounds_toArray, List.set_cons_zero, List.set_cons_succ])
  refine wpAnyH_take1 (i := 70) (oi := _) (v := ?_) (by as_aux_lemma => kernel_rfl) rfl (by as_aux_lemma => kernel_rfl) (fun _ _ _ h => h) (Or.inl ⟨by rfl, ?_⟩) (by assumption) ?_
  rotate_left 1
  · intro w hSw; (try dsimp only at hSw); go_simp; (with_reducible rfl)
  (try simp only [Act.put, List.getElem_toArray, List.getElem_cons_zero, List.getElem_cons_succ, List.setIfInBounds_toArray, List.set_cons_zero, List.set_cons_succ])
  refine wpAnyH_take1 (i := 71) (oi := _) (v := ?_) (by as_aux_lemma => kernel_rfl) rfl (by as_aux_lemma => kernel_rfl) (fun _ _ _ h => h) (Or.inl ⟨by rfl, ?_⟩) (by assumption) ?_
  rotate_left 1
  · intro w hSw; (try dsimp only at hSw); go_simp; (with_reducible rfl)
  (try simp only [Act.put, List.getElem_toArray, List.getElem_cons_zero, List.getElem_cons_succ, List.setIfInBounds_toArray, List.set_cons_zero, List.set_cons_succ])
  refine wpAnyH_take1 (i := 72) (oi := _) (v := ?_) (by as_aux_lemma => kernel_rfl) rfl (by as_aux_lemma => kernel_rfl) (fun _ _ _ h => h) (Or.inl ⟨by rfl, ?_⟩) (by assumption) ?_
  rotate_left 1
  · intro w hSw; (try dsimp only at hSw); go_simp; (with_reducible rfl)
  (try simp only [Act.put, List.getElem_toArray, List.getElem_cons_zero, List.getElem_cons_succ, List.setIfInBounds_toArray, List.set_cons_zero, List.set_cons_succ])
  refine wpAnyH_take1 (i := 73) (oi := _) (v := ?_) (by as_aux_lemma => kernel_rfl) rfl (by as_aux_lemma => kernel_rfl) (fun _ _ _ h => h) (Or.inl ⟨by rfl, ?_⟩) (by assumption) ?_
  rotate_left 1
  · intro w hSw; (try dsimp only at hSw); go_simp; (with_reducible rfl)
  (try simp only [Act.put, List.getElem_toArray, List.getElem_cons_zero, List.getElem_cons_succ, List.setIfInBounds_toArray, List.set_cons_zero, List.set_cons_succ])
  refine wpAnyH_take1 (i := 74) (oi := _) (v := ?_) (by as_aux_lemma => kernel_rfl) rfl (by as_aux_lemma => kernel_rfl) (fun _ _ _ h => h) (Or.inl ⟨by rfl, ?_⟩) (by assumption) ?_
  rotate_left 1
  · intro w hSw; (try dsimp only at hSw); go_simp; (with_reducible rfl)
  (try simp only [Act.put, List.getElem_toArray, List.getElem_cons_zero, List.getElem_cons_succ, List.setIfInBounds_toArray, List.set_cons_zero, List.set_cons_succ])
  refine wpAnyH_take1 (i := 75) (oi := _) (v := ?_) (by as_aux_lemma => kernel_rfl) rfl (by as_aux_lemma => kernel_rfl) (fun _ _ _ h => h) (Or.inl ⟨by rfl, ?_⟩) (by assumption) ?_
  rotate_left 1
  · intro w hSw; (try dsimp only at hSw); go_simp; (with_reducible rfl)
  (try simp only [Act.put, List.getElem_toArray, List.getElem_cons_zero, List.getElem_cons_succ, List.setIfInBounds_toArray, List.set_cons_zero, List.set_cons_succ])
  refine wpAnyH_one (i := 76) (by as_aux_lemma => kernel_rfl) rfl (by rfl) fun K hK => ?_
  go_simp
  refine v_spec.mono ?_
  rintro e _ ⟨rfl, rfl⟩
  (try dsimp only)
  clear hHeld
  refine hK.out _ _ (KC Seq.way).out fun hHeld => ?_
  clear hK K
  (try simp only [Act.put, List.getElem_toArray, List.getElem_cons_zero, List.getElem_cons_succ, List.setIfInBounds_toArray, List.set_cons_zero, List.set_cons_succ])
  refine wpAnyH_one (i := 77) (by as_aux_lemma => kernel_rfl) rfl (by rfl) fun K hK => ?_
  go_simp
  skip
  (try dsimp only)
  clear hHeld
  refine hK.out _ _ (KC Seq.way).out fun hHeld => ?_
  clear hK K
  (try simp only [Act.put, List.getElem_toArray, List.getElem_cons_zero, List.getElem_cons_succ, List.setIfInBounds_toArray, List.set_cons_zero, List.set_cons_succ])
  refine wpAnyH_one (i := 78) (by as_aux_lemma => kernel_rfl) rfl (by rfl) fun K hK => ?_
  go_simp
  refine (SameT_spec (T := fun _ => True) (a := [vC 0]) (b := [vC 0]) (Qc2.out.at Seq.way) ?_).mono ?_
  · exact FlatE.seq (S := fun _ => True) (l := [vC 0]) (Row.new _ [.int .i64 1, .string ⟨#[]⟩, .int .i64 0] _ (by simp)) (flatC (okV (by decide))) trivial rfl (by decide)
  rintro e w11 ⟨rfl, hq⟩
  have hb11 := below_step (hq.below _) (Seq.way : Below w5.heap.size w5 _)
  have z11 := hb11.size
  rw [decide_eq_true (show [vC 0] = [vC 0] from rfl)]
  (try dsimp only)
  clear hHeld
  refine hK.out _ _ (KC hb11).out fun hHeld => ?_
  clear hK K
  (try simp only [Act.put, List.getElem_toArray, List.getElem_cons_zero, List.getElem_cons_succ, List.setIfInBounds_toArray, List.set_cons_zero, List.set_cons_succ])
  refine wpAnyH_take1 (i := 79) (oi := _) (v := ?_) (by as_aux_lemma => kernel_rfl) rfl (by as_aux_lemma => kernel_rfl) (fun _ _ _ h => h) (Or.inl ⟨by rfl, ?_⟩) (by assumption) ?_
  rotate_left 1
  · intro w hSw; (try dsimp only at hSw); go_simp; (with_reducible rfl)
  (try simp only [Act.put, List.getElem_toArray, List.getElem_cons_zero, List.getElem_cons_succ, List.setIfInBounds_toArray, List.set_cons_zero, List.set_cons_succ])
  refine wpAnyH_take1 (i := 80) (oi := _) (v := ?_) (by as_aux_lemma => kernel_rfl) rfl (by as_aux_lemma => kernel_rfl) (fun _ _ _ h => h) (Or.inl ⟨by rfl, ?_⟩) (by assumption) ?_
  rotate_left 1
  · intro w hSw; (try dsimp only at hSw); go_simp; (with_reducible rfl)
  (try simp only [Act.put, List.getElem_toArray, List.getElem_cons_zero, List.getElem_cons_succ, List.setIfInBounds_toArray, List.set_cons_zero, List.set_cons_succ])
  refine wpAnyH_take1 (i := 81) (oi := _) (v := ?_) (by as_aux_lemma => kernel_rfl) rfl (by as_aux_lemma => kernel_rfl) (fun _ _ _ h => h) (Or.inl ⟨by rfl, ?_⟩) (by assumption) ?_
  rotate_left 1
  · intro w hSw; (try dsimp only at hSw); go_simp; (with_reducible rfl)
  (try simp only [Act.put, List.getElem_toArray, List.getElem_cons_zero, List.getElem_cons_succ, List.setIfInBounds_toArray, List.set_cons_zero, List.set_cons_succ])
  refine wpAnyH_take1 (i := 82) (oi := _) (v := ?_) (by as_aux_lemma => kernel_rfl) rfl (by as_aux_lemma => kernel_rfl) (fun _ _ _ h => h) (Or.inl ⟨by rfl, ?_⟩) (by assumption) ?_
  rotate_left 1
  · intro w hSw; (try dsimp only at hSw); go_simp; (with_reducible rfl)
  (try simp only [Act.put, List.getElem_toArray, List.getElem_cons_zero, List.getElem_cons_succ, List.setIfInBounds_toArray, List.set_cons_zero, List.set_cons_succ])
  refine wpAnyH_take1 (i := 83) (oi := _) (v := ?_) (by as_aux_lemma => kernel_rfl) rfl (by as_aux_lemma => kernel_rfl) (fun _ _ _ h => h) (Or.inl ⟨by rfl, ?_⟩) (by assumption) ?_
  rotate_left 1
  · intro w hSw; (try dsimp only at hSw); go_simp; (with_reducible rfl)
  (try simp only [Act.put, List.getElem_toArray, List.getElem_cons_zero, List.getElem_cons_succ, List.setIfInBounds_toArray, List.set_cons_zero, List.set_cons_succ])
  refine wpAnyH_take1 (i := 84) (oi := _) (v := ?_) (by as_aux_lemma => kernel_rfl) rfl (by as_aux_lemma => kernel_rfl) (fun _ _ _ h => h) (Or.inl ⟨by rfl, ?_⟩) (by assumption) ?_
  rotate_left 1
  · intro w hSw; (try dsimp only at hSw); go_simp; (with_reducible rfl)
  (try simp only [Act.put, List.getElem_toArray, List.getElem_cons_zero, List.getElem_cons_succ, List.setIfInBounds_toArray, List.set_cons_zero, List.set_cons_succ])
  refine wpAnyH_take1 (i := 85) (oi := _) (v := ?_) (by as_aux_lemma => kernel_rfl) rfl (by as_aux_lemma => kernel_rfl) (fun _ _ _ h => h) (Or.inl ⟨by rfl, ?_⟩) (by assumption) ?_
  rotate_left 1
  · intro w hSw; (try dsimp only at hSw); go_simp; (with_reducible rfl)
  (try simp only [Act.put, List.getElem_toArray, List.getElem_cons_zero, List.getElem_cons_succ, List.setIfInBounds_toArray, List.set_cons_zero, List.set_cons_succ])
  refine wpAnyH_take1 (i := 86) (oi := _) (v := ?_) (by as_aux_lemma => kernel_rfl) rfl (by as_aux_lemma => kernel_rfl) (fun _ _ _ h => h) (Or.inl ⟨by rfl, ?_⟩) (by assumption) ?_
  rotate_left 1
  · intro w hSw; (try dsimp only at hSw); go_simp; (with_reducible rfl)
  (try simp only [Act.put, List.getElem_toArray, List.getElem_cons_zero, List.getElem_cons_succ, List.setIfInBounds_toArray, List.set_cons_zero, List.set_cons_succ])
  refine wpAnyH_take1 (i := 87) (oi := _) (v := ?_) (by as_aux_lemma => kernel_rfl) rfl (by as_aux_lemma => kernel_rfl) (fun _ _ _ h => h) (Or.inl ⟨by rfl, ?_⟩) (by assumption) ?_
  rotate_left 1
  · intro w hSw; (try dsimp only at hSw); go_simp; (with_reducible rfl)
  (try simp only [Act.put, List.getElem_toArray, List.getElem_cons_zero, List.getElem_cons_succ, List.setIfInBounds_toArray, List.set_cons_zero, List.set_cons_succ])
  refine wpAnyH_take1 (i := 88) (oi := _) (v := ?_) (by as_aux_lemma => kernel_rfl) rfl (by as_aux_lemma => kernel_rfl) (fun _ _ _ h => h) (Or.inl ⟨by rfl, ?_⟩) (by assumption) ?_
  rotate_left 1
  · intro w hSw; (try dsimp only at hSw); go_simp; (with_reducible rfl)
  (try simp only [Act.put, List.getElem_toArray, List.getElem_cons_zero, List.getElem_cons_succ, List.setIfInBounds_toArray, List.set_cons_zero, List.set_cons_succ])
  refine wpAnyH_take1 (i := 89) (oi := _) (v := ?_) (by as_aux_lemma => kernel_rfl) rfl (by as_aux_lemma => kernel_rfl) (fun _ _ _ h => h) (Or.inl ⟨by rfl, ?_⟩) (by assumption) ?_
  rotate_left 1
  · intro w hSw; (try dsimp only at hSw); go_simp; (with_reducible rfl)
  (try simp only [Act.put, List.getElem_toArray, List.getElem_cons_zero, List.getElem_cons_succ, List.setIfInBounds_toArray, List.set_cons_zero, List.set_cons_succ])
  refine wpAnyH_take1 (i := 90) (oi := _) (v := ?_) (by as_aux_lemma => kernel_rfl) rfl (by as_aux_lemma => kernel_rfl) (fun _ _ _ h => h) (Or.inl ⟨by rfl, ?_⟩) (by assumption) ?_
  rotate_left 1
  · intro w hSw; (try dsimp only at hSw); go_simp; (with_reducible rfl)
  (try simp only [Act.put, List.getElem_toArray, List.getElem_cons_zero, List.getElem_cons_succ, List.setIfInBounds_toArray, List.set_cons_zero, List.set_cons_succ])
  refine wpAnyH_take1 (i := 91) (oi := _) (v := ?_) (by as_aux_lemma => kernel_rfl) rfl (by as_aux_lemma => kernel_rfl) (fun _ _ _ h => h) (Or.inl ⟨by rfl, ?_⟩) (by assumption) ?_
  rotate_left 1
  · intro w hSw; (try dsimp only at hSw); go_simp; (with_reducible rfl)
  (try simp only [Act.put, List.getElem_toArray, List.getElem_cons_zero, List.getElem_cons_succ, List.setIfInBounds_toArray, List.set_cons_zero, List.set_cons_succ])
  refine wpAnyH_take1 (i := 92) (oi := _) (v := ?_) (by as_aux_lemma => kernel_rfl) rfl (by as_aux_lemma => kernel_rfl) (fun _ _ _ h => h) (Or.inl ⟨by rfl, ?_⟩) (by assumption) ?_
  rotate_left 1
  · intro w hSw; (try dsimp only at hSw); go_simp; (with_reducible rfl)
  (try simp only [Act.put, List.getElem_toArray, List.getElem_cons_zero, List.getElem_cons_succ, List.setIfInBounds_toArray, List.set_cons_zero, List.set_cons_succ])
  refine wpAnyH_take1 (i := 93) (oi := _) (v := ?_) (by as_aux_lemma => kernel_rfl) rfl (by as_aux_lemma => kernel_rfl) (fun _ _ _ h => h) (Or.inl ⟨by rfl, ?_⟩) (by assumption) ?_
  rotate_left 1
  · intro w hSw; (try dsimp only at hSw); go_simp; (with_reducible rfl)
  (try simp only [Act.put, List.getElem_toArray, List.getElem_cons_zero, List.getElem_cons_succ, List.setIfInBounds_toArray, List.set_cons_zero, List.set_cons_succ])
  refine wpAnyH_take1 (i := 94) (oi := _) (v := ?_) (by as_aux_lemma => kernel_rfl) rfl (by as_aux_lemma => kernel_rfl) (fun _ _ _ h => h) (Or.inl ⟨by rfl, ?_⟩) (by assumption) ?_
  rotate_left 1
  · intro w hSw; (try dsimp only at hSw); go_simp; (with_reducible rfl)
  (try simp only [Act.put, List.getElem_toArray, List.getElem_cons_zero, List.getElem_cons_succ, List.setIfInBounds_toArray, List.set_cons_zero, List.set_cons_succ])
  refine wpAnyH_take1 (i := 95) (oi := _) (v := ?_) (by as_aux_lemma => kernel_rfl) rfl (by as_aux_lemma => kernel_rfl) (fun _ _ _ h => h) (Or.inl ⟨by rfl, ?_⟩) (by assumption) ?_
  rotate_left 1
  · intro w hSw; (try dsimp only at hSw); go_simp; (with_reducible rfl)
  (try simp only [Act.put, List.getElem_toArray, List.getElem_cons_zero, List.getElem_cons_succ, List.setIfInBounds_toArray, List.set_cons_zero, List.set_cons_succ])
  refine wpAnyH_take1 (i := 96) (oi := _) (v := ?_) (by as_aux_lemma => kernel_rfl) rfl (by as_aux_lemma => kernel_rfl) (fun _ _ _ h => h) (Or.inl ⟨by rfl, ?_⟩) (by assumption) ?_
  rotate_left 1
  · intro w hSw; (try dsimp only at hSw); go_simp; (with_reducible rfl)
  (try simp only [Act.put, List.getElem_toArray, List.getElem_cons_zero, List.getElem_cons_succ, List.setIfInBounds_toArray, List.set_cons_zero, List.set_cons_succ])
  refine wpAnyH_take1 (i := 97) (oi := _) (v := ?_) (by as_aux_lemma => kernel_rfl) rfl (by as_aux_lemma => kernel_rfl) (fun _ _ _ h => h) (Or.inl ⟨by rfl, ?_⟩) (by assumption) ?_
  rotate_left 1
  · intro w hSw; (try dsimp only at hSw); go_simp; (with_reducible rfl)
  (try simp only [Act.put, List.getElem_toArray, List.getElem_cons_zero, List.getElem_cons_succ, List.setIfInBounds_toArray, List.set_cons_zero, List.set_cons_succ])
  refine wpAnyH_take1 (i := 98) (oi := _) (v := ?_) (by as_aux_lemma => kernel_rfl) rfl (by as_aux_lemma => kernel_rfl) (fun _ _ _ h => h) (Or.inl ⟨by rfl, ?_⟩) (by assumption) ?_
  rotate_left 1
  · intro w hSw; (try dsimp only at hSw); go_simp; (with_reducible rfl)
  (try simp only [Act.put, List.getElem_toArray, List.getElem_cons_zero, List.getElem_cons_succ, List.setIfInBounds_toArray, List.set_cons_zero, List.set_cons_succ])
  refine wpAnyH_one (i := 99) (by as_aux_lemma => kernel_rfl) rfl (by rfl) fun K hK => ?_
  go_simp
  refine f_spec.mono ?_
  rintro e _ ⟨rfl, rfl⟩
  (try dsimp only)
  clear hHeld
  refine hK.out _ _ (KC Seq.way).out fun hHeld => ?_
  clear hK K
  (try simp only [Act.put, List.getElem_toArray, List.getElem_cons_zero, List.getElem_cons_succ, List.setIfInBounds_toArray, List.set_cons_zero, List.set_cons_succ])
  refine wpAnyH_one (i := 100) (by as_aux_lemma => kernel_rfl) rfl (by rfl) fun K hK => ?_
  go_simp
  refine v_spec.mono ?_
  rintro e _ ⟨rfl, rfl⟩
  (try dsimp only)
  clear hHeld
  refine hK.out _ _ (KC Seq.way).out fun hHeld => ?_
  clear hK K
  (try simp only [Act.put, List.getElem_toArray, List.getElem_cons_zero, List.getElem_cons_succ, List.setIfInBounds_toArray, List.set_cons_zero, List.set_cons_succ])
  refine wpAnyH_one (i := 101) (by as_aux_lemma => kernel_rfl) rfl (by rfl) fun K hK => ?_
  go_simp
  refine v_spec.mono ?_
  rintro e _ ⟨rfl, rfl⟩
  (try dsimp only)
  clear hHeld
  refine hK.out _ _ (KC Seq.way).out fun hHeld => ?_
  clear hK K
  (try simp only [Act.put, List.getElem_toArray, List.getElem_cons_zero, List.getElem_cons_succ, List.setIfInBounds_toArray, List.set_cons_zero, List.set_cons_succ])
  refine wpAnyH_one (i := 102) (by as_aux_lemma => kernel_rfl) rfl (by rfl) fun K hK => ?_
  go_simp
  skip
  (try dsimp only)
  clear hHeld
  refine hK.out _ _ (KC Seq.way).out fun hHeld => ?_
  clear hK K
  (try simp only [Act.put, List.getElem_toArray, List.getElem_cons_zero, List.getElem_cons_succ, List.setIfInBounds_toArray, List.set_cons_zero, List.set_cons_succ])
  refine wpAnyH_one (i := 103) (by as_aux_lemma => kernel_rfl) rfl (by rfl) fun K hK => ?_
  go_simp
  refine (SameT_spec (T := fun _ => True) (a := [fC ⟨#[102]⟩ 2, vC 1, vC 0]) (b := [fC ⟨#[102]⟩ 2, vC 1, vC 0]) (HD.out.at Seq.way) ?_).mono ?_
  · exact FlatE.seq (S := fun _ => True) (l := [fC ⟨#[102]⟩ 2, vC 1, vC 0]) (Row.new _ [.int .i64 3, .string ⟨#[102]⟩, .int .i64 2, .int .i64 1, .string ⟨#[]⟩, .int .i64 1, .int .i64 1, .string ⟨#[]⟩, .int .i64 0] _ (by simp)) (((flatC (okF (by decide) (by decide))).append (flatC (okV (by decide)))).append (flatC (okV (by decide)))) trivial rfl (by decide)
  rintro e w12 ⟨rfl, hq⟩
  have hb12 := below_step (hq.below _) (Seq.way : Below w5.heap.size w5 _)
  have z12 := hb12.size
  rw [decide_eq_true (show [fC ⟨#[102]⟩ 2, vC 1, vC 0] = [fC ⟨#[102]⟩ 2, vC 1, vC 0] from rfl)]
  (try dsimp only)
  clear hHeld
  refine hK.out _ _ (KC hb12).out fun hHeld => ?_
  clear hK K
  (try simp only [Act.put, List.getElem_toArray, List.getElem_cons_zero, List.getElem_cons_succ, List.setIfInBounds_toArray, List.set_cons_zero, List.set_cons_succ])
  refine wpAnyH_take1 (i := 104) (oi := _) (v := ?_) (by as_aux_lemma => kernel_rfl) rfl (by as_aux_lemma => kernel_rfl) (fun _ _ _ h => h) (Or.inl ⟨by rfl, ?_⟩) (by assumption) ?_
  rotate_left 1
  · intro w hSw; (try dsimp only at hSw); go_simp; (with_reducible rfl)
  (try simp only [Act.put, List.getElem_toArray, List.getElem_cons_zero, List.getElem_cons_succ, List.setIfInBounds_toArray, List.set_cons_zero, List.set_cons_succ])
  refine wpAnyH_take1 (i := 105) (oi := _) (v := ?_) (by as_aux_lemma => kernel_rfl) rfl (by as_aux_lemma => kernel_rfl) (fun _ _ _ h => h) (Or.inl ⟨by rfl, ?_⟩) (by assumption) ?_
  rotate_left 1
  · intro w hSw; (try dsimp only at hSw); go_simp; (with_reducible rfl)
  (try simp only [Act.put, List.getElem_toArray, List.getElem_cons_zero, List.getElem_cons_succ, List.setIfInBounds_toArray, List.set_cons_zero, List.set_cons_succ])
  refine wpAnyH_take1 (i := 106) (oi := _) (v := ?_) (by as_aux_lemma => kernel_rfl) rfl (by as_aux_lemma => kernel_rfl) (fun _ _ _ h => h) (Or.inl ⟨by rfl, ?_⟩) (by assumption) ?_
  rotate_left 1
  · intro w hSw; (try dsimp only at hSw); go_simp; (with_reducible rfl)
  (try simp only [Act.put, List.getElem_toArray, List.getElem_cons_zero, List.getElem_cons_succ, List.setIfInBounds_toArray, List.set_cons_zero, List.set_cons_succ])
  refine wpAnyH_one (i := 107) (by as_aux_lemma => kernel_rfl) rfl (by rfl) fun K hK => ?_
  go_simp
  refine (RightS02_spec (HS.out.at Seq.way)).mono ?_
  rintro e w13 ⟨rfl, hb⟩
  have hb13 := below_step (hb) (Seq.way : Below w5.heap.size w5 _)
  have z13 := hb13.size
  rw [hd_r1]
  (try dsimp only)
  clear hHeld
  refine hK.out _ _ (KC hb13).out fun hHeld => ?_
  clear hK K
  (try simp only [Act.put, List.getElem_toArray, List.getElem_cons_zero, List.getElem_cons_succ, List.setIfInBounds_toArray, List.set_cons_zero, List.set_cons_succ])
  refine wpAnyH_take1 (i := 108) (oi := _) (v := ?_) (by as_aux_lemma => kernel_rfl) rfl (by as_aux_lemma => kernel_rfl) (fun _ _ _ h => h) (Or.inl ⟨by rfl, ?_⟩) (by assumption) ?_
  rotate_left 1
  · intro w hSw; (try dsimp only at hSw); go_simp; (with_reducible rfl)
  (try simp only [Act.put, List.getElem_toArray, List.getElem_cons_zero, List.getElem_cons_succ, List.setIfInBounds_toArray, List.set_cons_zero, List.set_cons_succ])
  refine wpAnyH_take1 (i := 109) (oi := _) (v := ?_) (by as_aux_lemma => kernel_rfl) rfl (by as_aux_lemma => kernel_rfl) (fun _ _ _ h => h) (Or.inl ⟨by rfl, ?_⟩) (by assumption) ?_
  rotate_left 1
  · intro w hSw; (try dsimp only at hSw); go_simp; (with_reducible rfl)
  (try simp only [Act.put, List.getElem_toArray, List.getElem_cons_zero, List.getElem_cons_succ, List.setIfInBounds_toArray, List.set_cons_zero, List.set_cons_succ])
  refine wpAnyH_take1 (i := 110) (oi := _) (v := ?_) (by as_aux_lemma => kernel_rfl) rfl (by as_aux_lemma => kernel_rfl) (fun _ _ _ h => h) (Or.inl ⟨by rfl, ?_⟩) (by assumption) ?_
  rotate_left 1
  · intro w hSw; (try dsimp only at hSw); go_simp; (with_reducible rfl)
  (try simp only [Act.put, List.getElem_toArray, List.getElem_cons_zero, List.getElem_cons_succ, List.setIfInBounds_toArray, List.set_cons_zero, List.set_cons_succ])
  refine wpAnyH_one (i := 111) (by as_aux_lemma => kernel_rfl) rfl (by rfl) fun K hK => ?_
  go_simp
  refine (IdemP_spec (HS.out.at Seq.way) (by simp [VarsNe]) (by simp)).mono ?_
  rintro e w14 ⟨rfl, hb⟩
  have hb14 := below_step (hb) (Seq.way : Below w5.heap.size w5 _)
  have z14 := hb14.size
  rw [hd_i1]
  (try dsimp only)
  clear hHeld
  refine hK.out _ _ (KC hb14).out fun hHeld => ?_
  clear hK K
  (try simp only [Act.put, List.getElem_toArray, List.getElem_cons_zero, List.getElem_cons_succ, List.setIfInBounds_toArray, List.set_cons_zero, List.set_cons_succ])
  refine wpAnyH_take1 (i := 112) (oi := _) (v := ?_) (by as_aux_lemma => kernel_rfl) rfl (by as_aux_lemma => kernel_rfl) (fun _ _ _ h => h) (Or.inl ⟨by rfl, ?_⟩) (by assumption) ?_
  rotate_left 1
  · intro w hSw; (try dsimp only at hSw); go_simp; (with_reducible rfl)
  (try simp only [Act.put, List.getElem_toArray, List.getElem_cons_zero, List.getElem_cons_succ, List.setIfInBounds_toArray, List.set_cons_zero, List.set_cons_succ])
  refine wpAnyH_take1 (i := 113) (oi := _) (v := ?_) (by as_aux_lemma => kernel_rfl) rfl (by as_aux_lemma => kernel_rfl) (fun _ _ _ h => h) (Or.inl ⟨by rfl, ?_⟩) (by assumption) ?_
  rotate_left 1
  · intro w hSw; (try dsimp only at hSw); go_simp; (with_reducible rfl)
  (try simp only [Act.put, List.getElem_toArray, List.getElem_cons_zero, List.getElem_cons_succ, List.setIfInBounds_toArray, List.set_cons_zero, List.set_cons_succ])
  refine wpAnyH_take1 (i := 114) (oi := _) (v := ?_) (by as_aux_lemma => kernel_rfl) rfl (by as_aux_lemma => kernel_rfl) (fun _ _ _ h => h) (Or.inl ⟨by rfl, ?_⟩) (by assumption) ?_
  rotate_left 1
  · intro w hSw; (try dsimp only at hSw); go_simp; (with_reducible rfl)
  (try simp only [Act.put, List.getElem_toArray, List.getElem_cons_zero, List.getElem_cons_succ, List.setIfInBounds_toArray, List.set_cons_zero, List.set_cons_succ])
  refine wpAnyH_take1 (i := 115) (oi := _) (v := ?_) (by as_aux_lemma => kernel_rfl) rfl (by as_aux_lemma => kernel_rfl) (fun _ _ _ h => h) (Or.inl ⟨by rfl, ?_⟩) (by assumption) ?_
  rotate_left 1
  · intro w hSw; (try dsimp only at hSw); go_simp; (with_reducible rfl)
  (try simp only [Act.put, List.getElem_toArray, List.getElem_cons_zero, List.getElem_cons_succ, List.setIfInBounds_toArray, List.set_cons_zero, List.set_cons_succ])
  refine wpAnyH_one (i := 116) (by as_aux_lemma => kernel_rfl) rfl (by rfl) fun K hK => ?_
  go_simp
  refine (IdemP_spec (HBB.out.at Seq.way) (by simp [VarsNe]) (by simp)).mono ?_
  rintro e w15 ⟨rfl, hb⟩
  have hb15 := below_step (hb) (Seq.way : Below w5.heap.size w5 _)
  have z15 := hb15.size
  rw [hd_i2]
  (try dsimp only)
  clear hHeld
  refine hK.out _ _ (KC hb15).out fun hHeld => ?_
  clear hK K
  (try simp only [Act.put, List.getElem_toArray, List.getElem_cons_zero, List.getElem_cons_succ, List.setIfInBounds_toArray, List.set_cons_zero, List.set_cons_succ])
  refine wpAnyH_take1 (i := 117) (oi := _) (v := ?_) (by as_aux_lemma => kernel_rfl) rfl (by as_aux_lemma => kernel_rfl) (fun _ _ _ h => h) (Or.inl ⟨by rfl, ?_⟩) (by assumption) ?_
  rotate_left 1
  · intro w hSw; (try dsimp only at hSw); go_simp; (with_reducible rfl)
  (try simp only [Act.put, List.getElem_toArray, List.getElem_cons_zero, List.getElem_cons_succ, List.setIfInBounds_toArray, List.set_cons_zero, List.set_cons_succ])
  refine wpAnyH_take1 (i := 118) (oi := _) (v := ?_) (by as_aux_lemma => kernel_rfl) rfl (by as_aux_lemma => kernel_rfl) (fun _ _ _ h => h) (Or.inl ⟨by rfl, ?_⟩) (by assumption) ?_
  rotate_left 1
  · intro w hSw; (try dsimp only at hSw); go_simp; (with_reducible rfl)
  (try simp only [Act.put, List.getElem_toArray, List.getElem_cons_zero, List.getElem_cons_succ, List.setIfInBounds_toArray, List.set_cons_zero, List.set_cons_succ])
  refine wpAnyH_one (i := 119) (by as_aux_lemma => kernel_rfl) rfl (by rfl) fun K hK => ?_
  go_simp
  refine v_spec.mono ?_
  rintro e _ ⟨rfl, rfl⟩
  (try dsimp only)
  clear hHeld
  refine hK.out _ _ (KC Seq.way).out fun hHeld => ?_
  clear hK K
  (try simp only [Act.put, List.getElem_toArray, List.getElem_cons_zero, List.getElem_cons_succ, List.setIfInBounds_toArray, List.set_cons_zero, List.set_cons_succ])
  refine wpAnyH_one (i := 120) (by as_aux_lemma => kernel_rfl) rfl (by rfl) fun K hK => ?_
  go_simp
  skip
  (try dsimp only)
  clear hHeld
  refine hK.out _ _ (KC Seq.way).out fun hHeld => ?_
  clear hK K
  (try simp only [Act.put, List.getElem_toArray, List.getElem_cons_zero, List.getElem_cons_succ, List.setIfInBounds_toArray, List.set_cons_zero, List.set_cons_succ])
  refine wpAnyH_take1 (i := 121) (oi := _) (v := ?_) (by as_aux_lemma => kernel_rfl) rfl (by as_aux_lemma => kernel_rfl) (fun _ _ _ h => h) (Or.inl ⟨by rfl, ?_⟩) (by assumption) ?_
  rotate_left 1
  · intro w hSw; (try dsimp only at hSw); go_simp; (with_reducible rfl)
  (try simp only [Act.put, List.getElem_toArray, List.getElem_cons_zero, List.getElem_cons_succ, List.setIfInBounds_toArray, List.set_cons_zero, List.set_cons_succ])
  refine wpAnyH_one (i := 122) (by as_aux_lemma => kernel_rfl) rfl (by rfl) fun K hK => ?_
  go_simp
  skip
  (try dsimp only)
  clear hHeld
  refine hK.out _ _ (KC Seq.way).out fun hHeld => ?_
  clear hK K
  (try simp only [Act.put, List.getElem_toArray, List.getElem_cons_zero, List.getElem_cons_succ, List.setIfInBounds_toArray, List.set_cons_zero, List.set_cons_succ])
  refine wpAnyH_one (i := 123) (by as_aux_lemma => kernel_rfl) rfl (by rfl) fun K hK => ?_
  go_simp
  refine (RightS02_spec (S := fun _ => True) (s := [Bnd.mk 3 [vC 3]]) ?_).mono ?_
  · exact FlatE.seq (S := fun _ => True) (l := [Bnd.mk 3 [vC 3]]) (Row.new _ [.int .i64 3, .slice (some ⟨w15.heap.size + 1, 0, none⟩) 1 1] _ (by simp)) (flatB (by decide) (FlatE.seq (S := fun _ => True) (l := [vC 3]) (Row.alloc (Row.new _ [.int .i64 1, .string ⟨#[]⟩, .int .i64 3] _ (by simp)) _) (flatC (okV (by decide))) trivial rfl (by decide))) trivial rfl (by decide)
  rintro e w16 ⟨rfl, hb⟩
  have hb16 := below_step (hb) (Seq.way : Below w5.heap.size w5 _)
  have z16 := hb16.size
  rw [hd_r2]
  (try dsimp only)
  clear hHeld
  refine hK.out _ _ (KC hb16).out fun hHeld => ?_
  clear hK K
  (try simp only [Act.put, List.getElem_toArray, List.getElem_cons_zero, List.getElem_cons_succ, List.setIfInBounds_toArray, List.set_cons_zero, List.set_cons_succ])
  refine wpAnyH_take1 (i := 124) (oi := _) (v := ?_) (by as_aux_lemma => kernel_rfl) rfl (by as_aux_lemma => kernel_rfl) (fun _ _ _ h => h) (Or.inl ⟨by rfl, ?_⟩) (by assumption) ?_
  rotate_left 1
  · intro w hSw; (try dsimp only at hSw); go_simp; (with_reducible rfl)
  (try simp only [Act.put, List.getElem_toArray, List.getElem_cons_zero, List.getElem_cons_succ, List.setIfInBounds_toArray, List.set_cons_zero, List.set_cons_succ])
  refine wpAnyH_take1 (i := 125) (oi := _) (v := ?_) (by as_aux_lemma => kernel_rfl) rfl (by as_aux_lemma => kernel_rfl) (fun _ _ _ h => h) (Or.inl ⟨by rfl, ?_⟩) (by assumption) ?_
  rotate_left 1
  · intro w hSw; (try dsimp only at hSw); go_simp; (with_reducible rfl)
  (try simp only [Act.put, List.getElem_toArray, List.getElem_cons_zero, List.getElem_cons_succ, List.setIfInBounds_toArray, List.set_cons_zero, List.set_cons_succ])
  refine wpAnyH_take1 (i := 126) (oi := _) (v := ?_) (by as_aux_lemma => kernel_rfl) rfl (by as_aux_lemma => kernel_rfl) (fun _ _ _ h => h) (Or.inl ⟨by rfl, ?_⟩) (by assumption) ?_
  rotate_left 1
  · intro w hSw; (try dsimp only at hSw); go_simp; (with_reducible rfl)
  (try simp only [Act.put, List.getElem_toArray, List.getElem_cons_zero, List.getElem_cons_succ, List.setIfInBounds_toArray, List.set_cons_zero, List.set_cons_succ])
  refine wpAnyH_take1 (i := 127) (oi := _) (v := ?_) (by as_aux_lemma => kernel_rfl) rfl (by as_aux_lemma => kernel_rfl) (fun _ _ _ h => h) (Or.inl ⟨by rfl, ?_⟩) (by assumption) ?_
  rotate_left 1
  · intro w hSw; (try dsimp only at hSw); go_simp; (with_reducible rfl)
  (try simp only [Act.put, List.getElem_toArray, List.getElem_cons_zero, List.getElem_cons_succ, List.setIfInBounds_toArray, List.set_cons_zero, List.set_cons_succ])
  refine wpAnyH_take1 (i := 128) (oi := _) (v := ?_) (by as_aux_lemma => kernel_rfl) rfl (by as_aux_lemma => kernel_rfl) (fun _ _ _ h => h) (Or.inl ⟨by rfl, ?_⟩) (by assumption) ?_
  rotate_left 1
  · intro w hSw; (try dsimp only at hSw); go_simp; (with_reducible rfl)
  (try simp only [Act.put, List.getElem_toArray, List.getElem_cons_zero, List.getElem_cons_succ, List.setIfInBounds_toArray, List.set_cons_zero, List.set_cons_succ])
  refine wpAnyH_take1 (i := 129) (oi := _) (v := ?_) (by as_aux_lemma => kernel_rfl) rfl (by as_aux_lemma => kernel_rfl) (fun _ _ _ h => h) (Or.inl ⟨by rfl, ?_⟩) (by assumption) ?_
  rotate_left 1
  · intro w hSw; (try dsimp only at hSw); go_simp; (with_reducible rfl)
  (try simp only [Act.put, List.getElem_toArray, List.getElem_cons_zero, List.getElem_cons_succ, List.setIfInBounds_toArray, List.set_cons_zero, List.set_cons_succ])
  refine wpAnyH_take1 (i := 130) (oi := _) (v := ?_) (by as_aux_lemma => kernel_rfl) rfl (by as_aux_lemma => kernel_rfl) (fun _ _ _ h => h) (Or.inl ⟨by rfl, ?_⟩) (by assumption) ?_
  rotate_left 1
  · intro w hSw; (try dsimp only at hSw); go_simp; (with_reducible rfl)
  (try simp only [Act.put, List.getElem_toArray, List.getElem_cons_zero, List.getElem_cons_succ, List.setIfInBounds_toArray, List.set_cons_zero, List.set_cons_succ])
  refine wpAnyH_take1 (i := 131) (oi := _) (v := ?_) (by as_aux_lemma => kernel_rfl) rfl (by as_aux_lemma => kernel_rfl) (fun _ _ _ h => h) (Or.inl ⟨by rfl, ?_⟩) (by assumption) ?_
  rotate_left 1
  · intro w hSw; (try dsimp only at hSw); go_simp; (with_reducible rfl)
  (try simp only [Act.put, List.getElem_toArray, List.getElem_cons_zero, List.getElem_cons_succ, List.setIfInBounds_toArray, List.set_cons_zero, List.set_cons_succ])
  refine wpAnyH_take1 (i := 132) (oi := _) (v := ?_) (by as_aux_lemma => kernel_rfl) rfl (by as_aux_lemma => kernel_rfl) (fun _ _ _ h => h) (Or.inl ⟨by rfl, ?_⟩) (by assumption) ?_
  rotate_left 1
  · intro w hSw; (try dsimp only at hSw); go_simp; (with_reducible rfl)
  (try simp only [Act.put, List.getElem_toArray, List.getElem_cons_zero, List.getElem_cons_succ, List.setIfInBounds_toArray, List.set_cons_zero, List.set_cons_succ])
  refine wpAnyH_one (i := 133) (by as_aux_lemma => kernel_rfl) rfl (by rfl) fun K hK => ?_
  go_simp
  skip
  (try dsimp only)
  clear hHeld
  refine hK.out _ _ (KC Seq.way).out fun hHeld => ?_
  clear hK K
  (try simp only [Act.put, List.getElem_toArray, List.getElem_cons_zero, List.getElem_cons_succ, List.setIfInBounds_toArray, List.set_cons_zero, List.set_cons_succ])
  refine wpAnyH_one (i := 134) (by as_aux_lemma => kernel_rfl) rfl (by rfl) fun K hK => ?_
  go_simp
  refine (RightS02_spec (S := fun _ => True) (s := [Bnd.mk 1 [vC 0], Bnd.mk 0 [vC 1]]) ?_).mono ?_
  · exact FlatE.seq (S := fun _ => True) (l := [Bnd.mk 1 [vC 0], Bnd.mk 0 [vC 1]]) (Row.new _ [.int .i64 1, .slice ts1 1 us1, .int .i64 0, .slice ts0 1 us0] _ (by simp)) ((flatB (by decide) (Qs1.out.at Seq.way)).append (flatB (by decide) (Qs0.out.at Seq.way))) trivial rfl (by decide)
  rintro e w17 ⟨rfl, hb⟩
  have hb17 := below_step (hb) (Seq.way : Below w5.heap.size w5 _)
  have z17 := hb17.size
  rw [hd_r3]
  (try dsimp only)
  clear hHeld
  refine hK.out _ _ (KC hb17).out fun hHeld => ?_
  clear hK K
  (try simp only [Act.put, List.getElem_toArray, List.getElem_cons_zero, List.getElem_cons_succ, List.setIfInBounds_toArray, List.set_cons_zero, List.set_cons_succ])
  refine wpAnyH_take1 (i := 135) (oi := _) (v := ?_) (by as_aux_lemma => kernel_rfl) rfl (by as_aux_lemma => kernel_rfl) (fun _ _ _ h => h) (Or.inl ⟨by rfl, ?_⟩) (by assumption) ?_
  rotate_left 1
  · intro w hSw; (try dsimp only at hSw); go_simp; (with_reducible rfl)
  (try simp only [Act.put, List.getElem_toArray, List.getElem_cons_zero, List.getElem_cons_succ, List.setIfInBounds_toArray, List.set_cons_zero, List.set_cons_succ])
  refine wpAnyH_take1 (i := 136) (oi := _) (v := ?_) (by as_aux_lemma => kernel_rfl) rfl (by as_aux_lemma => kernel_rfl) (fun _ _ _ h => h) (Or.inl ⟨by rfl, ?_⟩) (by assumption) ?_
  rotate_left 1
  · intro w hSw; (try dsimp only at hSw); go_simp; (with_reducible rfl)
  (try simp only [Act.put, List.getElem_toArray, List.getElem_cons_zero, List.getElem_cons_succ, List.setIfInBounds_toArray, List.set_cons_zero, List.set_cons_succ])
  refine wpAnyH_take1 (i := 137) (oi := _) (v := ?_) (by as_aux_lemma => kernel_rfl) rfl (by as_aux_lemma => kernel_rfl) (fun _ _ _ h => h) (Or.inl ⟨by rfl, ?_⟩) (by assumption) ?_
  rotate_left 1
  · intro w hSw; (try dsimp only at hSw); go_simp; (with_reducible rfl)
  (try simp only [Act.put, List.getElem_toArray, List.getElem_cons_zero, List.getElem_cons_succ, List.setIfInBounds_toArray, List.set_cons_zero, List.set_cons_succ])
  refine wpAnyH_one (i := 138) (by as_aux_lemma => kernel_rfl) rfl (by rfl) fun K hK => ?_
  go_simp
  refine (RightS02_spec (Seq.nil bindE (fun _ => True) _)).mono ?_
  rintro e w18 ⟨rfl, hb⟩
  have hb18 := below_step (hb) (Seq.way : Below w5.heap.size w5 _)
  have z18 := hb18.size
  rw [hd_r4]
  (try dsimp only)
  clear hHeld
  refine hK.out _ _ (KC hb18).out fun hHeld => ?_
  clear hK K
  (try simp only [Act.put, List.getElem_toArray, List.getElem_cons_zero, List.getElem_cons_succ, List.setIfInBounds_toArray, List.set_cons_zero, List.set_cons_succ])
  refine wpAnyH_take1 (i := 139) (oi := _) (v := ?_) (by as_aux_lemma => kernel_rfl) rfl (by as_aux_lemma => kernel_rfl) (fun _ _ _ h => h) (Or.inl ⟨by rfl, ?_⟩) (by assumption) ?_
  rotate_left 1
  · intro w hSw; (try dsimp only at hSw); go_simp; (with_reducible rfl)
  (try simp only [Act.put, List.getElem_toArray, List.getElem_cons_zero, List.getElem_cons_succ, List.setIfInBounds_toArray, List.set_cons_zero, List.set_cons_succ])
  refine wpAnyH_take1 (i := 140) (oi := _) (v := ?_) (by as_aux_lemma => kernel_rfl) rfl (by as_aux_lemma => kernel_rfl) (fun _ _ _ h => h) (Or.inl ⟨by rfl, ?_⟩) (by assumption) ?_
  rotate_left 1
  · intro w hSw; (try dsimp only at hSw); go_simp; (with_reducible rfl)
  (try simp only [Act.put, List.getElem_toArray, List.getElem_cons_zero, List.getElem_cons_succ, List.setIfInBounds_toArray, List.set_cons_zero])
  refine wpAnyH_done (by as_aux_lemma => kernel_rfl) ?_ _
  refine NoPanic.normal ?_
  exact HQ.out _ _ _ _ _ _ _ _ _ _ _ _ _ _ _ _ _ _ _ _ _ _ _ _ _ _ _ _ _ _ _ _ _ _ _ _ _ _ _ _ _ _ _ _ _ _ _ _ _ _ _ _ _ _ _ _ _ _ _ _ _ _ _ _ _ _ _ _ _ _ _ _ _ _ _ _ _ _ _ _ _ _ _ _ _ _ _ _ _ _ _ _ _ _ _ _ _ _ _ _ _ _ _ _ _ _ _ _ _ _ _ _ _ _ _ _ _ _ _ _ _ _ _ _ _ _ _ _ _ _ _ _ _ _ _ _ _ _ _ _ _ _ _ _ _ _ _ _ _ _ _ _ _ _ _ _ _ _ _ _ _ _ _ _ _ _ _ _ _ _ _ _ _ _ _ _ _ _ _ _ _ _ _ _ _ _ _ _ _ _ _ _ _ _ _ _ _ _ _ _ _ _ _ _ _ _ _ _ _ _ _ _ _ _ _ _ _ _ _ _ _ _ _ hb18
end Go.Proofs.Ytgfiaddldmmjiaa
