/- The document's own Index: Set, walked. Condition: room. -/
import Derived.Test.YtnpkjkhlbdkclaaRfC
set_option linter.unusedSimpArgs false
set_option linter.unusedVariables false
namespace Go.Proofs.Ytnpkjkhlbdkclaa
open Go.RowKit Go.Maps Go.MapKept Go.Proofs.YtnpkjkhlbdkclaaW.PrintWords Go.Proofs.Ytnpkjkhlbdkclaa.PIndexScripts

set_option maxHeartbeats 4000000 in
set_option maxRecDepth 100000 in
theorem rf_set {w0 w : World} {r : Nat} {S : List Pr} {v : Value} (h : Rf w0 w r S v) (hS : S.length ≤ 100000) (a b : ByteArray) (on : Bool) :
    Calls Try.prog 12 #[.pointer (some ⟨r, 0, none⟩), .string a, .string b, .bool on] w fun e w' => e = .returned (.bool (hasP S (a, b) != on)) ∧ ∃ v', Rf w0 w' r (setS S (a, b) on) v' ∧ Step w w' (fr r v) (fr r v') := by
  have HH := Lib.hid (rf_has h hS a b)
  have HS1 := Lib.hid (setS_same (S := S) (p := (a, b)) (on := on))
  have hself : Rf w0 w r S v ∧ Step w w (fr r v) (fr r v) := ⟨h, Step.refl _ _⟩
  have HSELF := Lib.hid hself
  clear hself
  cases hq : hasP S (a, b) with
  | true =>
    cases on with
    | true =>
      go_enter Try.func12, Try.ntmps12
      go_wp2_with fail
      refine HH.out.mono ?_
      rintro e w1 ⟨rfl, rfl⟩
      go_wp2_with fail
      go_ret
      exact ⟨rfl, v, by rw [HS1.out hq]; exact HSELF.out.1, HSELF.out.2⟩
    | false =>
      obtain ⟨A, c, rfl, hat⟩ := own_at h.own
      have hcl : ∀ w1, Below w.heap.size w w1 → w1.cell? ⟨r, 0, none⟩ = some (.slice A S.length c) := fun w1 hb => cell_of_block (h.below hb).cell
      have hat' : ∀ w1, Below w.heap.size w w1 → ∀ i (hi : i < S.length), ∃ g, A = some ⟨g, 0, none⟩ ∧ w1.cell? ⟨g, i * 2, none⟩ = some (.string S[i].1) ∧ w1.cell? ⟨g, i * 2 + 1, none⟩ = some (.string S[i].2) := fun w1 hb i hi => by
        obtain ⟨A', c', e, h1⟩ := own_at (h.below hb).own
        cases e
        exact h1 i hi
      have HAT := Lib.hid hat'
      have HCL := Lib.hid hcl
      have H := Lib.hid h
      obtain ⟨i0, hi, hzz, hsz, hbt⟩ := info_parts info47
      have HINF := Lib.hid (⟨hi, hzz, hsz, hbt⟩ : _ ∧ _ ∧ _ ∧ _)
      have HQ := Lib.hid hq
      clear hat hat' hcl h hi hzz hsz hbt hq
      have H0 := Lib.hid (Gath.start w S (stF (a, b)))
      go_enter Try.func12, Try.ntmps12
      go_wp2_with fail
      refine HH.out.mono ?_
      rintro e w1 ⟨rfl, rfl⟩
      rw [HQ.out]
      go_wp2_with fail
      go_loopw [9, 10] (fun av iv wr => ∃ i : Nat, i ≤ S.length ∧ iv = .int .i64 i ∧ Gath w wr S (stF (a, b)) i av) (fun _ iv _ => S.length - (intOf iv).toNat)
      case atStart => exact ⟨0, by omega, rfl, H0.out⟩
      case round =>
        clear H0
        obtain ⟨i, hi, rfl, HR⟩ := hrel
        have HRh := Lib.hid HR
        clear HR
        have hc0 := HCL.out _ HRh.out.b
        by_cases hil : i < S.length
        · have hil' : (i : Int) < (S.length : Int) := by omega
          have hi0 : (0 : Int) ≤ i := by omega
          obtain ⟨g, rfl, c0, c1⟩ := HAT.out _ HRh.out.b i hil
          obtain ⟨p, hp⟩ : ∃ p, S[i] = p := ⟨_, rfl⟩
          rw [hp] at c0 c1
          have HPp := Lib.hid hp
          clear hp
          obtain ⟨y, z⟩ := p
          simp only at c0 c1
          by_cases h1 : y = a
          · have t1 := teq h1
            have t2 := teq' h1
            have H1 := Lib.hid h1
            clear h1
            by_cases h2 : z = b
            · have t3 := teq h2
              have t4 := teq' h2
              have HX := Lib.hid (HRh.out.skip hil HPp.out (by simp [stF, H1.out, h2]))
              clear h2
              go_wp2_with fail
              go_roundw
              case rel => exact ⟨i + 1, by omega, by go_num, HX.out⟩
              case measure => simp [intOf]; omega
            · have t3 := tne h2
              have t4 := tne' h2
              have H2 := Lib.hid (show stF (a, b) (y, z) = true from by simp [stF, h2])
              clear h2
              have HG := Lib.hid (HRh.out.alloc (.cells #[.string y, .string z] 47))
              have HPR := Lib.hid (pair_reads wr y z)
              go_wp2_with (first
                | (at_builtin; refine wpList_append_any _ rfl _ _ 28 rfl w.heap.size 47 i0 _ 2 32 Try.underlying28 HINF.out.1 HINF.out.2.1 HINF.out.2.2.1 HINF.out.2.2.2 rfl (by decide) u9 ((S.take i).filter (stF (a, b))).length (prc ((S.take i).filter (stF (a, b)))) rfl HG.out.own (wr.heap.size + 1) (some ⟨wr.heap.size, 0, none⟩) 1 1 [.string y, .string z] rfl HPR.out ?_ ?_ ?_ ?_ ?_)
                | fail)
              · intro q hq; simp at hq; rcases hq with rfl | rfl <;> rfl
              · have := HG.out.len; unfold maxLen; omega
              · have := HG.out.len; omega
              · exact HG.out.b.size
              intro v2 w2 hown2 hgr2 _
              have HX := Lib.hid (HG.out.keep hil HPp.out H2.out hown2 hgr2)
              clear hown2 hgr2 HG HPR HRh hc0 c0 c1
              go_wp2_with fail
              go_roundw
              case rel => exact ⟨i + 1, by omega, by go_num, HX.out⟩
              case measure => simp [intOf]; omega
          · have t1 := tne h1
            have t2 := tne' h1
            have H2 := Lib.hid (show stF (a, b) (y, z) = true from by simp [stF, h1])
            clear h1
            have HG := Lib.hid (HRh.out.alloc (.cells #[.string y, .string z] 47))
            have HPR := Lib.hid (pair_reads wr y z)
            go_wp2_with (first
              | (at_builtin; refine wpList_append_any _ rfl _ _ 28 rfl w.heap.size 47 i0 _ 2 32 Try.underlying28 HINF.out.1 HINF.out.2.1 HINF.out.2.2.1 HINF.out.2.2.2 rfl (by decide) u9 ((S.take i).filter (stF (a, b))).length (prc ((S.take i).filter (stF (a, b)))) rfl HG.out.own (wr.heap.size + 1) (some ⟨wr.heap.size, 0, none⟩) 1 1 [.string y, .string z] rfl HPR.out ?_ ?_ ?_ ?_ ?_)
              | fail)
            · intro q hq; simp at hq; rcases hq with rfl | rfl <;> rfl
            · have := HG.out.len; unfold maxLen; omega
            · have := HG.out.len; omega
            · exact HG.out.b.size
            intro v2 w2 hown2 hgr2 _
            have HX := Lib.hid (HG.out.keep hil HPp.out H2.out hown2 hgr2)
            clear hown2 hgr2 HG HPR HRh hc0 c0 c1
            go_wp2_with fail
            go_roundw
            case rel => exact ⟨i + 1, by omega, by go_num, HX.out⟩
            case measure => simp [intOf]; omega
        · have he : i = S.length := by omega
          subst he
          obtain ⟨A2, c2, rfl, hl2⟩ : ∃ A2 c2, u9 = .slice A2 (setS S (a, b) false).length c2 ∧ True := by
            have h1 := HRh.out.own
            rw [List.take_length, set_filter] at h1
            rcases h1.2 with ⟨h, h2⟩ | ⟨g, cap, cur, h, _⟩
            · exact ⟨none, 0, by rw [h, h2], trivial⟩
            · exact ⟨_, _, h, trivial⟩
          have HX := Lib.hid (Rf.stored H.out HRh.out)
          rw [set_filter] at HX
          have hblk := (H.out.below HRh.out.b).cell
          have hfz : wr.frozen? ⟨r, 0, none⟩ = false := Blk.frozen (t := 30) hblk 0
          clear HRh hblk
          go_wp2_with fail
          go_ret
          exact ⟨rfl, _, HX.out.1, HX.out.2⟩
  | false =>
    cases on with
    | false =>
      go_enter Try.func12, Try.ntmps12
      go_wp2_with fail
      refine HH.out.mono ?_
      rintro e w1 ⟨rfl, rfl⟩
      go_wp2_with fail
      go_ret
      exact ⟨rfl, v, by rw [HS1.out hq]; exact HSELF.out.1, HSELF.out.2⟩
    | true =>
      have H := Lib.hid h
      have hc0 : w.cell? ⟨r, 0, none⟩ = some v := cell_of_block h.cell
      have HPR := Lib.hid (pair_reads w a b)
      have HG := Lib.hid (h.below ((Below.refl _ _).alloc (Nat.le_refl _) (.cells #[.string a, .string b] 47)))
      have HQ := Lib.hid hq
      obtain ⟨i0, hi, hzz, hsz, hbt⟩ := info_parts info47
      have HINF := Lib.hid (⟨hi, hzz, hsz, hbt⟩ : _ ∧ _ ∧ _ ∧ _)
      clear h hi hzz hsz hbt hq
      go_enter Try.func12, Try.ntmps12
      go_wp2_with fail
      refine HH.out.mono ?_
      rintro e w1 ⟨rfl, rfl⟩
      rw [HQ.out]
      go_wp2_with (first
        | (at_builtin; refine wpList_append_any _ rfl _ _ 28 rfl w0.heap.size 47 i0 _ 2 32 Try.underlying28 HINF.out.1 HINF.out.2.1 HINF.out.2.2.1 HINF.out.2.2.2 rfl (by decide) v S.length (prc S) rfl HG.out.own (w.heap.size + 1) (some ⟨w.heap.size, 0, none⟩) 1 1 [.string a, .string b] rfl HPR.out ?_ ?_ ?_ ?_ ?_)
        | fail)
      · intro q hq; simp at hq; rcases hq with rfl | rfl <;> rfl
      · unfold maxLen; omega
      · omega
      · exact HG.out.b.size
      intro v2 w2 hown2 hgr2 hdis2
      have HX := Lib.hid (Rf.pushed H.out (p := (a, b)) ((Below.refl _ _).alloc (Nat.le_refl _) (.cells #[.string a, .string b] 47)) hown2 hgr2 (by rw [World.size_alloc]; exact hdis2))
      obtain ⟨A2, c2, rfl⟩ : ∃ A2 c2, v2 = .slice A2 (S.length + 1) c2 := by
        rcases hown2.2 with ⟨h, h2⟩ | ⟨g, cap, cur, h, _⟩
        · omega
        · exact ⟨_, _, h⟩
      have hcell2 : w2.heap[r]? = some (.cells #[v] 30 (0, 0)) := by
        rw [hgr2.block r (by have := H.out.lt r (mem_fr.2 (.inl rfl)); simp; omega) (fun e => H.out.ne r e.symm rfl)]
        exact HG.out.cell
      have hcc : ∃ u, w2.cell? ⟨r, 0, none⟩ = some u := ⟨v, cell_of_block hcell2⟩
      have hcc2 : w2.cell? ⟨r, 0, none⟩ = some v := cell_of_block hcell2
      have hfz : w2.frozen? ⟨r, 0, none⟩ = false := Blk.frozen (t := 30) hcell2 0
      clear hown2 hgr2 hdis2 HG HPR hcell2 hcc
      go_wp2_with fail
      go_ret
      exact ⟨rfl, _, by have e : setS S (a, b) true = S ++ [(a, b)] := by { unfold setS; rw [HQ.out]; rfl }; rw [e]; exact HX.out.1, HX.out.2⟩
end Go.Proofs.Ytnpkjkhlbdkclaa
