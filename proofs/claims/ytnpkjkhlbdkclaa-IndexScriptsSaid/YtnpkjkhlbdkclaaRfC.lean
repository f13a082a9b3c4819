/- The document's own Index: Forget, walked. Condition: room. -/
import Derived.Test.YtnpkjkhlbdkclaaRfB
set_option linter.unusedSimpArgs false
set_option linter.unusedVariables false
namespace Go.Proofs.Ytnpkjkhlbdkclaa
open Go.RowKit Go.Maps Go.MapKept Go.Proofs.YtnpkjkhlbdkclaaW.PrintWords Go.Proofs.Ytnpkjkhlbdkclaa.PIndexScripts

def fgF (u : ByteArray) (p : Pr) : Bool := decide (p.1 ≠ u) && decide (p.2 ≠ u)
theorem forget_filter (S : List Pr) (u : ByteArray) : S.filter (fgF u) = forgetS S u 2 := by
  unfold forgetS fgF
  congr 1
  funext p
  simp
def stF (q : Pr) (p : Pr) : Bool := !decide (p = q)
theorem set_filter (S : List Pr) (q : Pr) : S.filter (stF q) = setS S q false := by unfold setS stF; simp

set_option maxHeartbeats 4000000 in
set_option maxRecDepth 100000 in
theorem rf_forget {w0 w : World} {r : Nat} {S : List Pr} {v : Value} (h : Rf w0 w r S v) (hS : S.length ≤ 100000) (u : ByteArray) :
    Calls Try.prog 16 #[.pointer (some ⟨r, 0, none⟩), .string u] w fun e w' => e = .returned (.int .i64 ((S.length : Int) - ((forgetS S u 2).length : Int))) ∧ ∃ v', Rf w0 w' r (forgetS S u 2) v' ∧ Step w w' (fr r v) (fr r v') := by
  obtain ⟨A, c, rfl, hat⟩ := own_at h.own
  have hcl : ∀ w1, Below w.heap.size w w1 → w1.cell? ⟨r, 0, none⟩ = some (.slice A S.length c) := fun w1 hb => cell_of_block (h.below hb).cell
  have hat' : ∀ w1, Below w.heap.size w w1 → ∀ i (hi : i < S.length), ∃ g, A = some ⟨g, 0, none⟩ ∧ w1.cell? ⟨g, i * 2, none⟩ = some (.string S[i].1) ∧ w1.cell? ⟨g, i * 2 + 1, none⟩ = some (.string S[i].2) := fun w1 hb i hi => by
    obtain ⟨A', c', e, h1⟩ := own_at (h.below hb).own
    cases e
    exact h1 i hi
  have HAT := Lib.hid hat'
  have HCL := Lib.hid hcl
  have H := Lib.hid h
  obtain ⟨i0, hi, hzz, hsz, hbt⟩ := info_parts info47
  have HINF := Lib.hid (⟨hi, hzz, hsz, hbt⟩ : _ ∧ _ ∧ _ ∧ _)
  clear hat hat' hcl h hi hzz hsz hbt
  have H0 := Lib.hid (Gath.start w S (fgF u))
  go_enter Try.func16, Try.ntmps16
  go_wp2_with fail
  go_loopw [5, 6] (fun av iv wr => ∃ i : Nat, i ≤ S.length ∧ iv = .int .i64 i ∧ Gath w wr S (fgF u) i av) (fun _ iv _ => S.length - (intOf iv).toNat)
  case atStart => exact ⟨0, by omega, rfl, H0.out⟩
  case round =>
    clear H0
    obtain ⟨i, hi, rfl, HR⟩ := hrel
    have HRh := Lib.hid HR
    clear HR
    have hc0 := HCL.out _ HRh.out.b
    by_cases hil : i < S.length
    · have hil' : (i : Int) < (S.length : Int) := by omega
      have hi0 : (0 : Int) ≤ i := by omega
      obtain ⟨g, rfl, c0, c1⟩ := HAT.out _ HRh.out.b i hil
      obtain ⟨p, hp⟩ : ∃ p, S[i] = p := ⟨_, rfl⟩
      rw [hp] at c0 c1
      have HPp := Lib.hid hp
      clear hp
      obtain ⟨y, z⟩ := p
      simp only at c0 c1
      by_cases h1 : y = u
      · have t1 := teq h1
        have t2 := teq' h1
        have HX := Lib.hid (HRh.out.skip hil HPp.out (by simp [fgF, h1]))
        clear h1
        go_wp2_with fail
        go_roundw
        case rel => exact ⟨i + 1, by omega, by go_num, HX.out⟩
        case measure => simp [intOf]; omega
      · have t1 := tne h1
        have t2 := tne' h1
        have H1 := Lib.hid h1
        clear h1
        by_cases h2 : z = u
        · have t3 := teq h2
          have t4 := teq' h2
          have HX := Lib.hid (HRh.out.skip hil HPp.out (by simp [fgF, h2]))
          clear h2
          go_wp2_with fail
          go_roundw
          case rel => exact ⟨i + 1, by omega, by go_num, HX.out⟩
          case measure => simp [intOf]; omega
        · have t3 := tne h2
          have t4 := tne' h2
          have H2 := Lib.hid (show fgF u (y, z) = true from by simp [fgF, H1.out, h2])
          clear h2
          have HG := Lib.hid (HRh.out.alloc (.cells #[.string y, .string z] 47))
          have HPR := Lib.hid (pair_reads wr y z)
          go_wp2_with (first
            | (at_builtin; refine wpList_append_any _ rfl _ _ 28 rfl w.heap.size 47 i0 _ 2 32 Try.underlying28 HINF.out.1 HINF.out.2.1 HINF.out.2.2.1 HINF.out.2.2.2 rfl (by decide) u5 ((S.take i).filter (fgF u)).length (prc ((S.take i).filter (fgF u))) rfl HG.out.own (wr.heap.size + 1) (some ⟨wr.heap.size, 0, none⟩) 1 1 [.string y, .string z] rfl HPR.out ?_ ?_ ?_ ?_ ?_)
            | fail)
          · intro q hq; simp at hq; rcases hq with rfl | rfl <;> rfl
          · have := HG.out.len; unfold maxLen; omega
          · have := HG.out.len; omega
          · exact HG.out.b.size
          intro v2 w2 hown2 hgr2 _
          have HX := Lib.hid (HG.out.keep hil HPp.out H2.out hown2 hgr2)
          clear hown2 hgr2 HG HPR HRh hc0 c0 c1
          go_wp2_with fail
          go_roundw
          case rel => exact ⟨i + 1, by omega, by go_num, HX.out⟩
          case measure => simp [intOf]; omega
    · have he : i = S.length := by omega
      subst he
      obtain ⟨A2, c2, rfl, hl2⟩ : ∃ A2 c2, u5 = .slice A2 (forgetS S u 2).length c2 ∧ True := by
        have h1 := HRh.out.own
        rw [List.take_length, forget_filter] at h1
        rcases h1.2 with ⟨h, h2⟩ | ⟨g, cap, cur, h, _⟩
        · exact ⟨none, 0, by rw [h, h2], trivial⟩
        · exact ⟨_, _, h, trivial⟩
      have HX := Lib.hid (Rf.stored H.out HRh.out)
      have hlen : (forgetS S u 2).length ≤ S.length := List.length_filter_le _ _
      have hwr : wrap64 ((S.length : Int) - ((forgetS S u 2).length : Int)) = (S.length : Int) - ((forgetS S u 2).length : Int) := by unfold wrap64; omega
      rw [forget_filter] at HX
      have hblk := (H.out.below HRh.out.b).cell
      have hfz : wr.frozen? ⟨r, 0, none⟩ = false := Blk.frozen (t := 30) hblk 0
      clear HRh hblk
      go_wp2_with fail
      go_ret
      exact ⟨rfl, _, HX.out.1, HX.out.2⟩
end Go.Proofs.Ytnpkjkhlbdkclaa
