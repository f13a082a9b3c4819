/- live: the walk. No condition. -/
import Derived.Test.YtnpkjkhlbdkclaaIxLive
set_option linter.unusedSimpArgs false
set_option linter.unusedVariables false
namespace Go.Proofs.Ytnpkjkhlbdkclaa
open Go.RowKit Go.Maps Go.MapKept Go.Proofs.YtnpkjkhlbdkclaaW.PrintWords

theorem lit2 (w : World) (a b : ByteArray) (t : TypeId) : Kd.C Kd.string (w.alloc (.cells #[.string a, .string b] t)) (some ⟨w.heap.size, 0, none⟩) [a, b].length [a, b] := by
  refine Kd.str_of_reads (B := w.heap.size + 1) ⟨rfl, fun _ => ⟨_, rfl, by simp, fun j u hu => ?_⟩⟩ (by simp)
  have hb := heap_alloc_new w (.cells #[.string a, .string b] t)
  match j, hu with
  | 0, hu => simp at hu; subst hu; exact cell_of_block hb
  | 1, hu => simp at hu; subst hu; exact cell_of_block hb

set_option maxHeartbeats 2000000 in
set_option maxRecDepth 100000 in
theorem live_any (w : World) : Calls Try.prog 9 #[] w fun e w' => e = .returned (.bool true) ∧ Below w.heap.size w w' := by
  go_enter Try.func9, Try.ntmps9
  go_wp2_with fail
  refine (lv_new (Below.refl _ w)).mono ?_
  rintro e w0 ⟨x, fp0, rfl, h0, _, _⟩
  have H0 := Lib.hid h0
  clear h0
  go_wp2_with fail
  refine (lv_set H0.out cC cB true _ true e1 (by decide +kernel) (by omega) szC szB).mono ?_
  rintro e w1 ⟨rfl, fp1, h1, _⟩
  have H1 := Lib.hid h1
  clear h1 H0
  go_wp2_with fail
  refine (lv_set H1.out cA cB true _ true e2 (by decide +kernel) (by omega) szA szB).mono ?_
  rintro e w2 ⟨rfl, fp2, h1, _⟩
  have H2 := Lib.hid h1
  clear h1 H1
  go_wp2_with fail
  refine (lv_set H2.out cA cB true _ false e3 (by decide +kernel) (by omega) szA szB).mono ?_
  rintro e w3 ⟨rfl, fp3, h1, _⟩
  have H3 := Lib.hid h1
  clear h1 H2
  go_wp2_with fail
  refine (lv_set H3.out cA cA true _ true e4 (by decide +kernel) (by omega) szA szA).mono ?_
  rintro e w4 ⟨rfl, fp4, h1, _⟩
  have H4 := Lib.hid h1
  clear h1 H3
  go_wp2_with fail
  refine (lv_watchers H4.out cB _ o1 (by omega) szB).mono ?_
  rintro e w5 ⟨A1, c1, rfl, hc1, hC1, _, hb⟩
  have H5 := Lib.hid (H4.out.below hb)
  have HC1 := Lib.hid hC1
  have HL1 := Lib.hid hc1
  clear hc1 hC1 hb H4
  go_wp2_with fail
  refine (lv_contacts H5.out cA _ o2 (by omega) szA).mono ?_
  rintro e w6 ⟨A2, c2, rfl, hc2, hC2, _, hb⟩
  have H6 := Lib.hid (H5.out.below hb)
  have HC2 := Lib.hid hC2
  have HL2 := Lib.hid hc2
  have HD1 := Lib.hid (HC1.out.step (Step.below hb _))
  clear hc2 hC2 hb H5 HC1
  go_wp2_with fail
  refine (lv_len H6.out 3 rfl).mono ?_
  rintro e w7 ⟨rfl, rfl⟩
  go_wp2_with fail
  refine (lv_set H6.out cC cB false _ true e5 (by decide +kernel) (by omega) szC szB).mono ?_
  rintro e w7 ⟨rfl, fp7, h1, hs⟩
  have H7 := Lib.hid h1
  have HE1 := Lib.hid (HD1.out.step hs)
  have HE2 := Lib.hid (HC2.out.step hs)
  clear h1 hs HD1 HC2 H6
  go_wp2_with fail
  refine (lv_set H7.out cC cB false _ false e6 (by decide +kernel) (by omega) szC szB).mono ?_
  rintro e w8 ⟨rfl, fp8, h1, hs⟩
  have H8 := Lib.hid h1
  have HF1 := Lib.hid (HE1.out.step hs)
  have HF2 := Lib.hid (HE2.out.step hs)
  clear h1 hs HE1 HE2 H7
  go_wp2_with fail
  refine (lv_forget H8.out cA _ 2 f1 rfl (by omega) szA).mono ?_
  rintro e w9 ⟨rfl, fp9, h1, hs⟩
  have H9 := Lib.hid h1
  have HG1 := Lib.hid (HF1.out.step hs)
  have HG2 := Lib.hid (HF2.out.step hs)
  clear h1 hs HF1 HF2 H8
  go_wp2_with fail
  refine (same_any A1 c1 [cA, cC] _ 2 [cA, cC] _ (Kd.C_below HG1.out.reads ((Below.refl _ _).alloc (Nat.le_refl _) _)) HL1.out (lit2 _ _ _ _) (Nat.le_refl _) (by decide) true (by decide +kernel)).mono ?_
  rintro e w10 ⟨rfl, q, rfl⟩
  go_wp2_with fail
  have hl2 := lit2 ((w9.alloc (.cells #[.string cA, .string cC] 9)).drewN q) cA cB 9
  have esz : ((w9.alloc (.cells #[.string cA, .string cC] 9)).drewN q).heap.size = w9.heap.size + 1 := by show (w9.alloc _).heap.size = _; simp
  rw [esz] at hl2
  have hbl : Below w9.heap.size w9 (((w9.alloc (.cells #[.string cA, .string cC] 9)).drewN q).alloc (.cells #[.string cA, .string cB] 9)) := by
    have h1 := (Below.refl w9.heap.size w9).alloc (Nat.le_refl _) (.cells #[.string cA, .string cC] 9)
    have h2 : Below w9.heap.size w9 ((w9.alloc (.cells #[.string cA, .string cC] 9)).drewN q) := ⟨h1.os, h1.tape, h1.output, h1.size, h1.block⟩
    exact h2.alloc (by rw [esz]; omega) _
  refine (same_any A2 c2 [cA, cB] _ 2 [cA, cB] _ (Kd.C_below HG2.out.reads hbl) HL2.out hl2 (Nat.le_refl _) (by decide) true (by decide +kernel)).mono ?_
  rintro e w10 ⟨rfl, q2, rfl⟩
  have H10 := Lib.hid (H9.out.below (w' := (((w9.alloc (.cells #[.string cA, .string cC] 9)).drewN q).alloc (.cells #[.string cA, .string cB] 9)).drewN q2) ⟨hbl.os, hbl.tape, hbl.output, hbl.size, hbl.block⟩)
  clear hl2 esz hbl HG1 HG2 H9
  go_wp2_with fail
  refine (lv_len H10.out 0 rfl).mono ?_
  rintro e w11 ⟨rfl, rfl⟩
  go_wp2_with fail
  refine (lv_has H10.out cA cB false (by decide +kernel) szA szB).mono ?_
  rintro e w12 ⟨rfl, rfl⟩
  go_wp2_with fail
  go_ret
  exact ⟨rfl, H10.out.b⟩
end Go.Proofs.Ytnpkjkhlbdkclaa
