/- slices.Concat of two lists of texts. Condition: room. -/
import Derived.Test.YtnpkjkhlbdkclaaMergeSaid
import Derived.Test.YtnpkjkhlbdkclaaShelf
import Derived.Lib.Hide
import Derived.Outline
import Derived.WalkLawsBesides
import Derived.WalkSpells
set_option linter.unusedSimpArgs false
set_option linter.unusedVariables false
namespace Go.Proofs.Ytnpkjkhlbdkclaa
open Go.RowKit Go.Proofs.YtnpkjkhlbdkclaaW.PrintWords

theorem infoStr : (Try.prog.info? 9).map (fun i => (i.zero, i.size, i.bytes)) = some (some (.string ⟨#[]⟩), 1, 16) := by kernel_rfl

theorem grow_any (n : Nat) (w : World) (hn : n * 16 ≤ 140737488351232) : Calls Try.prog 34 #[.slice none 0 0, .int .i64 n] w fun e w' =>
    ∃ v, e = .returned v ∧ w'.ownsRow w.heap.size 9 1 v 0 [] ∧ w.grownBy w' none ∧ (n = 0 → v = .slice none 0 0) := by
  by_cases h0 : n = 0
  · subst h0
    exact (Any8.slices_Grow_room Try.grow34 none 0 0 0 w (Nat.le_refl _) (by omega) (by omega) (by omega)).mono fun e w' ⟨he, hw⟩ => ⟨_, he, ⟨rfl, .inl ⟨rfl, rfl⟩⟩, by rw [hw]; exact World.grownBy.refl _ _, fun _ => rfl⟩
  · obtain ⟨i0, hi, hz, hs, hb⟩ := info_parts infoStr
    refine (Any8.slices_Grow_grow Try.grow34 i0 _ hi hz (by omega) none 0 0 n [] w (Nat.le_refl _) (by omega) (by rw [hb]; omega) (by omega) (by simp) (fun _ => rfl) (fun a h => by cases h)).mono fun e w' ⟨he, hw⟩ => ?_
    subst hw
    refine ⟨_, he, ⟨rfl, .inr ⟨w.heap.size, _, _, rfl, Nat.le_refl _, heap_alloc_new _ _, Nat.zero_le _, ?_, ?_, rfl⟩⟩, ⟨rfl, rfl, rfl, by simp, fun i hi _ => Below.heap_alloc w.drew _ i hi⟩, fun h => absurd h h0⟩
    · exact grownCap_le_maxLen _ _ _ _ (by unfold maxLen; omega)
    · have hge := grownCap_ge w (0 + n) 0 (Try.grow34_ren.t 25)
      have hz1 : (Value.string ⟨#[]⟩).cells.size = 1 := rfl
      simp only [Array.size_append, size_zeroCells, hz1, Nat.mul_one, List.size_toArray, List.length_nil]
      omega

/-- slices.Concat of two. -/
theorem concat_any (A0 : Option Addr) (c0 : Nat) (l0 : List ByteArray) (A1 : Option Addr) (c1 : Nat) (l1 : List ByteArray) (g cap : Nat) (w : World) (r0 : Reads w w.heap.size 1 A0 l0.length (l0.map Value.string)) (r1 : Reads w w.heap.size 1 A1 l1.length (l1.map Value.string))
    (h0 : w.cell? ⟨g, 0, none⟩ = some (.slice A0 l0.length c0)) (h1 : w.cell? ⟨g, 1, none⟩ = some (.slice A1 l1.length c1)) (hn : (l0.length + l1.length) * 16 ≤ 140737488351232) :
    Calls Try.prog 30 #[.slice (some ⟨g, 0, none⟩) 2 cap] w fun e w' =>
      ∃ v, e = .returned v ∧ w'.ownsRow w.heap.size 9 1 v (l0.length + l1.length) ((l0 ++ l1).map Value.string) ∧ Below w.heap.size w w' := by
  have hb0 : ¬ ((l0.length : Int) < 0) := by omega
  have hb1 : ¬ ((l0.length : Int) + (l1.length : Int) < 0) := by omega
  have e1 : 0 + (l0.length : Int) = (l0.length : Int) := by omega
  have hg : g < w.heap.size := by
    unfold World.cell? at h0
    cases hh : w.heap[g]? with
    | none => simp only [hh] at h0; cases h0
    | some o => exact (Array.getElem?_eq_some_iff.1 hh).1
  have R0 := Lib.hid r0
  have R1 := Lib.hid r1
  clear r0 r1
  go_enter Try.func30, Try.ntmps30
  go_wp2
  refine wp_loop_rounds 3 ?_
  rw [rounds_succ]
  go_wp2
  rw [rounds_succ]
  go_wp2
  rw [rounds_succ]
  go_wp2_with fail
  rw [show ((l0.length : Int) + (l1.length : Int)) = ((l0.length + l1.length : Nat) : Int) from by omega]
  refine (grow_any (l0.length + l1.length) w hn).mono ?_
  rintro e w1 ⟨v, rfl, hown, hgr, _⟩
  have ha0 : w1.cell? ⟨g, 0, none⟩ = some (.slice A0 l0.length c0) := (World.cell?_of_block (hgr.block g hg (by simp))).trans h0
  have ha1 : w1.cell? ⟨g, 1, none⟩ = some (.slice A1 l1.length c1) := (World.cell?_of_block (hgr.block g hg (by simp))).trans h1
  have HB1 := Lib.hid (((Below.refl w.heap.size w).grown hgr (Nat.le_refl _) (fun k hk => by cases hk)))
  have HOWN := Lib.hid hown
  clear hown hgr h0 h1
  obtain ⟨i0, hi, hz, hs, hb⟩ := info_parts infoStr
  have HI := Lib.hid (⟨hi, hz, hs, hb⟩ : _ ∧ _ ∧ _ ∧ _)
  clear hi hz hs hb
  go_wp2
  refine wp_loop_rounds 3 ?_
  rw [rounds_succ]
  go_wp2_with (first
    | (at_builtin; refine wpList_append_any _ rfl _ _ 38 rfl w.heap.size 9 i0 _ 1 16 Try.underlying38 HI.out.1 HI.out.2.1 HI.out.2.2.1 HI.out.2.2.2 rfl (by decide) v 0 [] rfl HOWN.out w.heap.size A0 l0.length c0 (l0.map Value.string) rfl (R0.out.below HB1.out) ?_ ?_ ?_ HB1.out.size ?_)
    | fail)
  · intro u hu; obtain ⟨x, _, rfl⟩ := List.mem_map.1 hu; rfl
  · unfold maxLen; omega
  · omega
  intro v2 w2 hown2 hgr2 hblk2
  have HB2 := Lib.hid (HB1.out.grown hgr2 HB1.out.size (fun k hk => own_base HOWN.out k hk))
  have hc1 : w2.cell? ⟨g, 1, none⟩ = some (.slice A1 l1.length c1) := (HB2.out.cell (p := ⟨g, 1, none⟩) hg).trans ((HB1.out.cell (p := ⟨g, 1, none⟩) hg).symm.trans ha1)
  have HOWN2 := Lib.hid hown2
  clear hown2 hgr2 hblk2 HOWN ha0 ha1
  go_wp2
  rw [rounds_succ]
  go_wp2_with (first
    | (at_builtin; refine wpList_append_any _ rfl _ _ 38 rfl w.heap.size 9 i0 _ 1 16 Try.underlying38 HI.out.1 HI.out.2.1 HI.out.2.2.1 HI.out.2.2.2 rfl (by decide) v2 l0.length (l0.map Value.string) rfl HOWN2.out w.heap.size A1 l1.length c1 (l1.map Value.string) rfl (R1.out.below HB2.out) ?_ ?_ ?_ HB2.out.size ?_)
    | fail)
  · intro u hu; obtain ⟨x, _, rfl⟩ := List.mem_map.1 hu; rfl
  · unfold maxLen; omega
  · omega
  intro v3 w3 hown3 hgr3 hblk3
  rw [← List.map_append] at hown3
  have HB3 := Lib.hid (HB2.out.grown hgr3 HB2.out.size (fun k hk => own_base HOWN2.out k hk))
  have HOWN3 := Lib.hid hown3
  clear hown3 hgr3 hblk3 HOWN2 hc1
  go_wp2
  rw [rounds_succ]
  go_wp2
  go_ret
  exact ⟨_, rfl, HOWN3.out, HB3.out⟩
end Go.Proofs.Ytnpkjkhlbdkclaa
