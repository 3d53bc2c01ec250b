/-
  Layer 2, the laws' beginning: head.
-/
import Derived.Test.YtgfiaddldmmjiaaSuR
namespace Go.Proofs.Ytgfiaddldmmjiaa
open Go Go.RowKit

set_option maxHeartbeats 8000000 in
set_option maxRecDepth 100000 in
theorem head_spec {w : World} : Calls Try.prog 12 #[] w (RetV (.bool true) w) := by
  have HB0 := Lib.hid (Below.refl w.heap.size w)
  go_enter Try.func12, Try.ntmps12
  go_wp2_with (first | (go_at_call 27; refine v_spec.mono ?_; rintro e _ ⟨rfl, rfl⟩) | (go_at_call 34; refine f_spec.mono ?_; rintro e _ ⟨rfl, rfl⟩))
  refine (ApplyP_spec (S := fun _ => True) (T := fun _ => True) (s := [Bnd.mk 0 [fC ⟨#[103]⟩ 1, vC 1]]) (t := [fC ⟨#[102]⟩ 2, vC 0, vC 1]) ?_ (by simp [VarsNe]) ?_).mono ?_
  · exact FlatE.seq (S := fun _ => True) (l := [Bnd.mk 0 [fC ⟨#[103]⟩ 1, vC 1]]) (Row.alloc (Row.alloc (Row.alloc (Row.alloc (Row.new _ [.int .i64 0, .slice (some ⟨w.heap.size + 1 + 1, 0, none⟩) 2 2] _ (by simp)) _) _) _) _) (flatB (by decide) (FlatE.seq (S := fun _ => True) (l := [fC ⟨#[103]⟩ 1, vC 1]) (Row.alloc (Row.alloc (Row.alloc (Row.alloc (Row.alloc (Row.new _ [.int .i64 3, .string ⟨#[103]⟩, .int .i64 1, .int .i64 1, .string ⟨#[]⟩, .int .i64 1] _ (by simp)) _) _) _) _) _) ((flatC (okF (by decide) (by decide))).append (flatC (okV (by decide)))) trivial rfl (by decide))) trivial rfl (by decide)
  · exact FlatE.seq (S := fun _ => True) (l := [fC ⟨#[102]⟩ 2, vC 0, vC 1]) (Row.new _ [.int .i64 3, .string ⟨#[102]⟩, .int .i64 2, .int .i64 1, .string ⟨#[]⟩, .int .i64 0, .int .i64 1, .string ⟨#[]⟩, .int .i64 1] _ (by simp)) (((flatC (okF (by decide) (by decide))).append (flatC (okV (by decide)))).append (flatC (okV (by decide)))) trivial rfl (by decide)
  rintro e w1 ⟨v1, rfl, hb, hs⟩
  rw [hd_app1] at hs ⊢
  replace hs := hs.any
  simp only [Option.getD_some] at hs
  have hbx := below_step hb (Seq.way : Below w.heap.size w _)
  have HB1 := Lib.hid (below_step hbx HB0.out)
  obtain ⟨a1, c1, rfl⟩ := hs.shape
  have HA := Lib.hid hs
  clear hs hb hbx
  go_wp2_with (first | (go_at_call 27; refine v_spec.mono ?_; rintro e _ ⟨rfl, rfl⟩) | (go_at_call 34; refine f_spec.mono ?_; rintro e _ ⟨rfl, rfl⟩))
  refine (ComposeP_spec (S := fun _ => True) (T := fun _ => True) (a := [Bnd.mk 0 [vC 1]]) (b := [Bnd.mk 1 [vC 0]]) ?_ ?_ (by simp [VarsNe]) (by simp [VarsNe]) (by simp) (by simp) (by decide) (by decide)).mono ?_
  · exact FlatE.seq (S := fun _ => True) (l := [Bnd.mk 0 [vC 1]]) (Row.alloc (Row.alloc (Row.alloc (Row.new _ [.int .i64 0, .slice (some ⟨w1.heap.size + 1, 0, none⟩) 1 1] _ (by simp)) _) _) _) (flatB (by decide) (FlatE.seq (S := fun _ => True) (l := [vC 1]) (Row.alloc (Row.alloc (Row.alloc (Row.alloc (Row.new _ [.int .i64 1, .string ⟨#[]⟩, .int .i64 1] _ (by simp)) _) _) _) _) (flatC (okV (by decide))) trivial rfl (by decide))) trivial rfl (by decide)
  · exact FlatE.seq (S := fun _ => True) (l := [Bnd.mk 1 [vC 0]]) (Row.new _ [.int .i64 1, .slice (some ⟨w1.heap.size + 1 + 1 + 1 + 1, 0, none⟩) 1 1] _ (by simp)) (flatB (by decide) (FlatE.seq (S := fun _ => True) (l := [vC 0]) (Row.alloc (Row.new _ [.int .i64 1, .string ⟨#[]⟩, .int .i64 0] _ (by simp)) _) (flatC (okV (by decide))) trivial rfl (by decide))) trivial rfl (by decide)
  rintro e w2 ⟨v2, rfl, hb, hs⟩
  rw [hd_comp1] at hs ⊢
  replace hs := hs.any
  simp only [Option.getD_some] at hs
  have hbx := below_step hb (Seq.way : Below w1.heap.size w1 _)
  have HB2 := Lib.hid (below_step hbx HB1.out)
  replace HA := Lib.hid (HA.out.at hbx)
  obtain ⟨a2, c2, rfl⟩ := hs.shape
  have HBB := Lib.hid hs
  clear hs hb hbx
  go_wp2_with (first | (go_at_call 27; refine v_spec.mono ?_; rintro e _ ⟨rfl, rfl⟩) | (go_at_call 34; refine f_spec.mono ?_; rintro e _ ⟨rfl, rfl⟩))
  refine (ComposeP_spec (S := fun _ => True) (T := fun _ => True) (a := [Bnd.mk 0 [vC 1], Bnd.mk 1 [vC 2]]) (b := [Bnd.mk 2 [vC 0]]) ?_ ?_ (by simp [VarsNe]) (by simp [VarsNe]) (by simp) (by simp) (by decide) (by decide)).mono ?_
  · exact FlatE.seq (S := fun _ => True) (l := [Bnd.mk 0 [vC 1], Bnd.mk 1 [vC 2]]) (Row.alloc (Row.alloc (Row.alloc (Row.new _ [.int .i64 0, .slice (some ⟨w2.heap.size + 1, 0, none⟩) 1 1, .int .i64 1, .slice (some ⟨w2.heap.size + 1 + 1 + 1, 0, none⟩) 1 1] _ (by simp)) _) _) _) ((flatB (by decide) (FlatE.seq (S := fun _ => True) (l := [vC 1]) (Row.alloc (Row.alloc (Row.alloc (Row.alloc (Row.alloc (Row.alloc (Row.new _ [.int .i64 1, .string ⟨#[]⟩, .int .i64 1] _ (by simp)) _) _) _) _) _) _) (flatC (okV (by decide))) trivial rfl (by decide))).append (flatB (by decide) (FlatE.seq (S := fun _ => True) (l := [vC 2]) (Row.alloc (Row.alloc (Row.alloc (Row.alloc (Row.new _ [.int .i64 1, .string ⟨#[]⟩, .int .i64 2] _ (by simp)) _) _) _) _) (flatC (okV (by decide))) trivial rfl (by decide)))) trivial rfl (by decide)
  · exact FlatE.seq (S := fun _ => True) (l := [Bnd.mk 2 [vC 0]]) (Row.new _ [.int .i64 2, .slice (some ⟨w2.heap.size + 1 + 1 + 1 + 1 + 1 + 1, 0, none⟩) 1 1] _ (by simp)) (flatB (by decide) (FlatE.seq (S := fun _ => True) (l := [vC 0]) (Row.alloc (Row.new _ [.int .i64 1, .string ⟨#[]⟩, .int .i64 0] _ (by simp)) _) (flatC (okV (by decide))) trivial rfl (by decide))) trivial rfl (by decide)
  rintro e w3 ⟨v3, rfl, hb, hs⟩
  rw [hd_comp2] at hs ⊢
  replace hs := hs.any
  simp only [Option.getD_some] at hs
  have hbx := below_step hb (Seq.way : Below w2.heap.size w2 _)
  have HB3 := Lib.hid (below_step hbx HB2.out)
  replace HA := Lib.hid (HA.out.at hbx)
  replace HBB := Lib.hid (HBB.out.at hbx)
  obtain ⟨a3, c3, rfl⟩ := hs.shape
  have HC := Lib.hid hs
  clear hs hb hbx
  go_wp2_with (first | (go_at_call 27; refine v_spec.mono ?_; rintro e _ ⟨rfl, rfl⟩) | (go_at_call 34; refine f_spec.mono ?_; rintro e _ ⟨rfl, rfl⟩))
  refine (KeepP_spec (S := fun _ => True) (T := fun _ => True) (s := [Bnd.mk 0 [vC 1], Bnd.mk 1 [vC 0], Bnd.mk 2 [vC 0]]) (l := [5, 2, 0]) ?_ ?_ (by decide)).mono ?_
  · exact HC.out.at Seq.way
  · exact FlatE.seq (S := fun _ => True) (l := [5, 2, 0]) (Row.new _ [.int .i64 5, .int .i64 2, .int .i64 0] _ (by simp)) (((flatI (by decide)).append (flatI (by decide))).append (flatI (by decide))) trivial rfl (by decide)
  rintro e w4 ⟨v4, rfl, hb, hs⟩
  rw [hd_keep] at hs
  replace hs := hs.any
  have hbx := below_step hb (Seq.way : Below w3.heap.size w3 _)
  have HB4 := Lib.hid (below_step hbx HB3.out)
  replace HA := Lib.hid (HA.out.at hbx)
  replace HBB := Lib.hid (HBB.out.at hbx)
  replace HC := Lib.hid (HC.out.at hbx)
  obtain ⟨a4, c4, rfl⟩ := hs.shape
  have HK := Lib.hid hs
  clear hs hb hbx
  go_wp2_with (first | (go_at_call 27; refine v_spec.mono ?_; rintro e _ ⟨rfl, rfl⟩) | (go_at_call 34; refine f_spec.mono ?_; rintro e _ ⟨rfl, rfl⟩))
  have HS := Lib.hid (show Seq bindE (fun _ => True) ((((((((((w4).alloc (.cells #[.int .i64 1, .string ⟨#[]⟩, .int .i64 1] 41)).alloc (.cells #[.int .i64 1, .string ⟨#[]⟩, .int .i64 1] 41)).alloc (.cells #[.int .i64 1, .string ⟨#[]⟩, .int .i64 0] 41)).alloc (.cells #[.int .i64 1, .string ⟨#[]⟩, .int .i64 0] 41)).alloc (.cells #[.int .i64 0, .slice (some ⟨w4.heap.size + 1, 0, none⟩) 1 1, .int .i64 1, .slice (some ⟨w4.heap.size + 1 + 1 + 1, 0, none⟩) 1 1] 44)).alloc (.cells #[.int .i64 3, .string ⟨#[102]⟩, .int .i64 2] 41)).alloc (.cells #[.int .i64 1, .string ⟨#[]⟩, .int .i64 0] 41)).alloc (.cells #[.int .i64 1, .string ⟨#[]⟩, .int .i64 1] 41)).alloc (.cells #[.int .i64 3, .string ⟨#[102]⟩, .int .i64 2, .int .i64 1, .string ⟨#[]⟩, .int .i64 0, .int .i64 1, .string ⟨#[]⟩, .int .i64 1] 41)) (.slice (some ⟨w4.heap.size + 1 + 1 + 1 + 1, 0, none⟩) 2 2) [Bnd.mk 0 [vC 1], Bnd.mk 1 [vC 0]] from FlatE.seq (S := fun _ => True) (l := [Bnd.mk 0 [vC 1], Bnd.mk 1 [vC 0]]) (Row.alloc (Row.alloc (Row.alloc (Row.alloc (Row.new _ [.int .i64 0, .slice (some ⟨w4.heap.size + 1, 0, none⟩) 1 1, .int .i64 1, .slice (some ⟨w4.heap.size + 1 + 1 + 1, 0, none⟩) 1 1] _ (by simp)) _) _) _) _) ((flatB (by decide) (FlatE.seq (S := fun _ => True) (l := [vC 1]) (Row.alloc (Row.alloc (Row.alloc (Row.alloc (Row.alloc (Row.alloc (Row.alloc (Row.new _ [.int .i64 1, .string ⟨#[]⟩, .int .i64 1] _ (by simp)) _) _) _) _) _) _) _) (flatC (okV (by decide))) trivial rfl (by decide))).append (flatB (by decide) (FlatE.seq (S := fun _ => True) (l := [vC 0]) (Row.alloc (Row.alloc (Row.alloc (Row.alloc (Row.alloc (Row.new _ [.int .i64 1, .string ⟨#[]⟩, .int .i64 0] _ (by simp)) _) _) _) _) _) (flatC (okV (by decide))) trivial rfl (by decide)))) trivial rfl (by decide))
  refine (ApplyP_spec (S := fun _ => True) (T := fun _ => True) (s := [Bnd.mk 0 [vC 1], Bnd.mk 1 [vC 0]]) (t := [fC ⟨#[102]⟩ 2, vC 0, vC 1]) HS.out (by simp [VarsNe]) ?_).mono ?_
  · exact FlatE.seq (S := fun _ => True) (l := [fC ⟨#[102]⟩ 2, vC 0, vC 1]) (Row.new _ [.int .i64 3, .string ⟨#[102]⟩, .int .i64 2, .int .i64 1, .string ⟨#[]⟩, .int .i64 0, .int .i64 1, .string ⟨#[]⟩, .int .i64 1] _ (by simp)) (((flatC (okF (by decide) (by decide))).append (flatC (okV (by decide)))).append (flatC (okV (by decide)))) trivial rfl (by decide)
  rintro e w5 ⟨v5, rfl, hb, hs⟩
  rw [hd_app2] at hs ⊢
  replace hs := hs.any
  simp only [Option.getD_some] at hs
  replace HS := Lib.hid (HS.out.at hb)
  have hbx := below_step hb (Seq.way : Below w4.heap.size w4 _)
  have HB5 := Lib.hid (below_step hbx HB4.out)
  replace HA := Lib.hid (HA.out.at hbx)
  replace HBB := Lib.hid (HBB.out.at hbx)
  replace HC := Lib.hid (HC.out.at hbx)
  replace HK := Lib.hid (HK.out.at hbx)
  obtain ⟨a5, c5, rfl⟩ := hs.shape
  have HD := Lib.hid hs
  clear hs hb hbx
  go_wp2_with fail
  refine r9_spec HA.out HBB.out HC.out HK.out HS.out HD.out ?_
  intros
  rename_i w6 hb6
  go_wp2_with fail
  go_ret
  exact ⟨rfl, below_step hb6 HB5.out⟩
end Go.Proofs.Ytgfiaddldmmjiaa
