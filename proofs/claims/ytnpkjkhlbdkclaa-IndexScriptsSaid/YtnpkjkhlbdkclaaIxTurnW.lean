/- (*Index).turn: the walk. Condition: names of a length that may be, and room. -/
import Derived.Test.YtnpkjkhlbdkclaaIxTurn
import Derived.Lib.Hide
set_option linter.unusedSimpArgs false
set_option linter.unusedVariables false
namespace Go.Proofs.Ytnpkjkhlbdkclaa
open Go.RowKit Go.Maps Go.MapKept

/-- Behind a turn. -/
structure Turned (w : World) (x pb : Nat) (S : List Pr) (m : Nat → Nat) (L0 : Nat → List (ByteArray × Nat)) (n : Nat) (p : Pr) (on : Bool) (w' : World) (L : Nat → List (ByteArray × Nat)) (n' : Nat) : Prop where
  ix : IxG w' x (setS S p on) (fun _ => setS S p on) pb m L n'
  room : n' ≤ n ∨ (p ∉ S ∧ n' ≤ n + 2)
  own : ∀ i ∈ foot x pb m L, i ∈ foot x pb m L0 ∨ w.heap.size ≤ i
  mods : Mods w w' (foot x pb m L0)
def TurnPost (w : World) (x pb : Nat) (S : List Pr) (m : Nat → Nat) (L0 : Nat → List (ByteArray × Nat)) (n : Nat) (p : Pr) (on : Bool) (e : Ending) (w' : World) : Prop :=
  e = .returned (.tuple #[]) ∧ ∃ L n', Turned w x pb S m L0 n p on w' L n'
def TurnLoop (w0 : World) (x pb : Nat) (S : List Pr) (m : Nat → Nat) (L0 : Nat → List (ByteArray × Nat)) (n : Nat) (p : Pr) (on : Bool) (k : Nat) (wr : World) : Prop := ∃ L n', TurnRel w0 x pb S m L0 n p on k L n' wr

theorem len_setS (S : List Pr) (p : Pr) (on : Bool) : (setS S p on).length ≤ S.length + 1 ∧ (p ∈ S → (setS S p on).length ≤ S.length) := by
  unfold setS
  cases on
  · have := List.length_filter_le (fun q => !decide (q = p)) S
    simp only [Bool.false_eq_true, if_false]
    exact ⟨by omega, fun _ => by omega⟩
  · cases h : hasP S p
    · simp only [if_true, Bool.false_eq_true, if_false, List.length_append, List.length_singleton]
      exact ⟨Nat.le_refl _, fun hp => absurd hp (hasP_not.1 h)⟩
    · simp

theorem TurnRel.finish {w0 : World} {x pb : Nat} {S : List Pr} {m : Nat → Nat} {L0 : Nat → List (ByteArray × Nat)} {n : Nat} {p : Pr} {on : Bool} {L : Nat → List (ByteArray × Nat)} {n' : Nat} {wr w1 : World} (h : TurnRel w0 x pb S m L0 n p on 2 L n' wr)
    (hSn : S.length ≤ n) (hat : At wr w1 pb) (hmap : PMap w1 pb (setS S p on)) (h1 : sz p.1) (h2 : sz p.2) : ∃ L n', Turned w0 x pb S m L0 n p on w1 L n' := by
  have hl := len_setS S p on
  have hnm : ∀ q ∈ setS S p on, sz q.1 ∧ sz q.2 := fun q hq => by
    rw [mem_setS] at hq
    by_cases e : q = p
    · subst e; exact ⟨h1, h2⟩
    · simp only [e, if_false] at hq; exact h.ix.names q hq
  have hpb : pb ∈ foot x pb m L := by simp [foot]
  by_cases hp : p ∈ S
  · have hn : n' ≤ n := by
      rcases h.room with h3 | ⟨h3, _⟩
      · exact h3
      · exact absurd hp h3
    exact ⟨L, n', ((h.ix.done hat hmap (Nat.le_trans (hl.2 hp) h.ix.lens.1) hnm).congr (fun s hs => by simp [hs])), .inl hn, h.own, hat.mods h.mods (h.own _ hpb)⟩
  · have hn : n' ≤ n + 2 := by
      rcases h.room with h3 | ⟨_, h3⟩ <;> omega
    exact ⟨L, n + 2, (((h.ix.mono hn).done hat hmap (by have := hl.1; omega) hnm).congr (fun s hs => by simp [hs])), .inr ⟨hp, Nat.le_refl _⟩, h.own, hat.mods h.mods (h.own _ hpb)⟩

set_option maxHeartbeats 1000000 in
set_option maxRecDepth 100000 in
theorem turn_any (x pb : Nat) (S : List Pr) (m : Nat → Nat) (L0 : Nat → List (ByteArray × Nat)) (n : Nat) (p : Pr) (on : Bool) (w : World) (h : IxG w x S (fun _ => S) pb m L0 n) (hroom : n + 3 < maxLen) (h1 : sz p.1) (h2 : sz p.2) :
    Calls Try.prog 25 #[.pointer (some ⟨x, 0, none⟩), pv p, .bool on] w (TurnPost w x pb S m L0 n p on) := by
  have hmm := @run_makeMap Try.prog
  have heq := fun (w : World) (r : Option Nat) => run_eql_map_nil w 42 48 4 r Try.underlying42
  have hSn := h.lens.1
  have H0 := Lib.hid (TurnRel.start (p := p) (on := on) h)
  have HP := Lib.hid (⟨h1, h2⟩ : sz p.1 ∧ sz p.2)
  clear h h1 h2
  unfold pv
  go_enter Try.func25, Try.ntmps25
  go_wp2
  go_loopw [12] (fun i wr => ∃ k : Nat, k ≤ 2 ∧ i = .int .i64 k ∧ TurnLoop w x pb S m L0 n p on k wr) (fun i _ => 2 - (intOf i).toNat)
  case atStart => exact ⟨0, by omega, rfl, L0, n, H0.out⟩
  case round =>
    clear H0
    obtain ⟨k, hk, rfl, L, n', HR⟩ := hrel
    by_cases hlt : k < 2
    · have hlt' : (k : Int) < 2 := by omega
      have hlt0 : (0 : Int) ≤ k := by omega
      have hcx := HR.field hlt
      have hcA := HR.name hlt
      have hS := HR.ix.side k hlt
      have hnm : sz (sideName k p) := by unfold sideName; split; exact HP.out.1; exact HP.out.2
      have hln : (L k).length ≤ n + 2 := by
        have := HR.ix.lens.2 k hlt
        rcases HR.room with h3 | ⟨_, h3⟩ <;> omega
      have HRh := Lib.hid HR
      clear HR
      obtain ⟨nm, hnmeq⟩ : ∃ nm, nm = sideName k p := ⟨_, rfl⟩
      rw [← hnmeq] at hcA hnm
      have Hnm := Lib.hid hnmeq
      have Hszn := Lib.hid hnm
      clear hnmeq hnm
      cases hl : look (L k) nm with
      | none =>
        have hlk : ∀ W, W.heap = wr.heap → (Instr.lookup 43 (.map (some (m k))) (.string nm) false).run Try.prog W = .ok (.map none) W := fun W hW => by
          have := (hS.map.frame (w' := W) (by rw [hW])).lookup stringKeyed Try.underlying43 sv_inj (zeroInner _) (stringKey nm Hszn.out).choose_spec
          rw [hl] at this
          exact this
        have hlk1 := fun q => hlk (wr.drewN q) rfl
        have hmk := hS.map
        have Hl := Lib.hid hl
        have Hhs := Lib.hid hS
        have Hmk := Lib.hid hmk
        clear hlk hl hS hmk
        go_wp2_with fail
        go_quiet (fail)
        go_wp2_with (first
          | (at_mapUpdate; refine wpList_mapUpdate_m _ rfl _ _ _ 43 rfl 9 42 stringKeyed Try.underlying43 sv_inj (m k) rfl (L k) ((Hmk.out.frame (w' := wr.drewN nq) rfl).frame (Below.heap_alloc _ _ _ Hmk.out.lt)) (by omega) nm wr.heap.size rfl rfl (stringKey nm Hszn.out) ?_)
          | fail)
        intro w1 hmap hat
        obtain ⟨L', n'', HM⟩ := TurnRel.fresh (HRh.out.drewN nq) hlt (by rw [← Hnm.out]; exact Hl.out) hat (by rw [← Hnm.out]; exact hmap)
        have HM := Lib.hid HM
        obtain ⟨r, hr⟩ : ∃ r, r = (wr.drewN nq).heap.size := ⟨_, rfl⟩
        rw [← hr] at HM
        clear hr hat hmap Hhs Hmk Hl hlk1 hcx hcA HRh
        have HLK := HM.out.look hlt Hnm.out Hszn.out
        have hp0 := HM.out.p0
        have hp1 := HM.out.p1
        obtain ⟨T, HPM, hT, hTl⟩ := HM.out.inner hlt
        have hT1 : (T.map fun p => (p, ())).length < maxLen := by rw [List.length_map]; omega
        have HPM := Lib.hid HPM
        have HT := Lib.hid hT
        have HT1 := Lib.hid hT1
        clear hT hT1 hTl
        cases on
        · go_wp2_with (first
            | (at_delete; refine wpList_delete_m _ rfl _ _ 42 48 rfl 4 pairKeyed Try.underlying42 pv_inj r rfl _ HPM.out p rfl (pairKey p HP.out.1 HP.out.2) ?_)
            | fail)
          intro w2 hmap2 hat2
          rw [del_pairs] at hmap2
          have HX := Lib.hid (show TurnLoop w x pb S m L0 n p false (k + 1) w2 from ⟨_, _, HM.out.turned hlt HT.out hat2 hmap2⟩)
          clear hmap2 hat2 HM HPM HT HT1 HLK hp0 hp1
          go_wp2
          go_roundw
          case rel => exact ⟨k + 1, by omega, by go_num, HX.out⟩
          case measure => simp [intOf]; omega
        · go_wp2_with (first
            | (at_mapUpdate; refine wpList_mapUpdate_m _ rfl _ _ _ 42 rfl 48 4 pairKeyed Try.underlying42 pv_inj r rfl _ HPM.out HT1.out p () rfl rfl (pairKey p HP.out.1 HP.out.2) ?_)
            | fail)
          intro w2 hmap2 hat2
          rw [put_pairs] at hmap2
          have HX := Lib.hid (show TurnLoop w x pb S m L0 n p true (k + 1) w2 from ⟨_, _, HM.out.turned hlt HT.out hat2 hmap2⟩)
          clear hmap2 hat2 HM HPM HT HT1 HLK hp0 hp1
          go_wp2
          go_roundw
          case rel => exact ⟨k + 1, by omega, by go_num, HX.out⟩
          case measure => simp [intOf]; omega
      | some r =>
        have hlk1 := fun q => ((HRh.out.there (by rw [← Hnm.out]; exact hl)).drewN q).look hlt Hnm.out Hszn.out
        have Hl := Lib.hid hl
        clear hl hS
        go_wp2_with fail
        go_quiet (fail)
        have HM := Lib.hid ((HRh.out.there (by rw [← Hnm.out]; exact Hl.out)).drewN nq)
        clear Hl hlk1 HRh
        have HLK := HM.out.look hlt Hnm.out Hszn.out
        have hp0 := HM.out.p0
        have hp1 := HM.out.p1
        obtain ⟨T, HPM, hT, hTl⟩ := HM.out.inner hlt
        have hT1 : (T.map fun p => (p, ())).length < maxLen := by rw [List.length_map]; omega
        have HPM := Lib.hid HPM
        have HT := Lib.hid hT
        have HT1 := Lib.hid hT1
        clear hT hT1 hTl
        cases on
        · go_wp2_with (first
            | (at_delete; refine wpList_delete_m _ rfl _ _ 42 48 rfl 4 pairKeyed Try.underlying42 pv_inj r rfl _ HPM.out p rfl (pairKey p HP.out.1 HP.out.2) ?_)
            | fail)
          intro w2 hmap2 hat2
          rw [del_pairs] at hmap2
          have HX := Lib.hid (show TurnLoop w x pb S m L0 n p false (k + 1) w2 from ⟨_, _, HM.out.turned hlt HT.out hat2 hmap2⟩)
          clear hmap2 hat2 HM HPM HT HT1 HLK hp0 hp1
          go_wp2
          go_roundw
          case rel => exact ⟨k + 1, by omega, by go_num, HX.out⟩
          case measure => simp [intOf]; omega
        · go_wp2_with (first
            | (at_mapUpdate; refine wpList_mapUpdate_m _ rfl _ _ _ 42 rfl 48 4 pairKeyed Try.underlying42 pv_inj r rfl _ HPM.out HT1.out p () rfl rfl (pairKey p HP.out.1 HP.out.2) ?_)
            | fail)
          intro w2 hmap2 hat2
          rw [put_pairs] at hmap2
          have HX := Lib.hid (show TurnLoop w x pb S m L0 n p true (k + 1) w2 from ⟨_, _, HM.out.turned hlt HT.out hat2 hmap2⟩)
          clear hmap2 hat2 HM HPM HT HT1 HLK hp0 hp1
          go_wp2
          go_roundw
          case rel => exact ⟨k + 1, by omega, by go_num, HX.out⟩
          case measure => simp [intOf]; omega
    · obtain rfl : k = 2 := by omega
      have hcx := HR.pairs
      have hp0 := HR.p0
      have hp1 := HR.p1
      have HRh := Lib.hid HR
      have HPM := Lib.hid HR.ix.pairs
      have hS1 : (S.map fun p => (p, ())).length < maxLen := by rw [List.length_map]; omega
      have HS1 := Lib.hid hS1
      clear HR hS1
      cases on
      · go_wp2_with fail
        go_still_tail 5, (by kernel_rfl)
        change wpList _ _ _ _ _ wr.drew
        have HRd := Lib.hid (HRh.out.drewN 1)
        change Hid (TurnRel w x pb S m L0 n p false 2 L n' wr.drew) at HRd
        refine wpList_delete_m _ rfl _ _ 42 48 rfl 4 pairKeyed Try.underlying42 pv_inj pb rfl _ (HPM.out.frame rfl) p rfl (pairKey p HP.out.1 HP.out.2) ?_
        intro w2 hmap2 hat2
        rw [del_pairs] at hmap2
        have HX := Lib.hid (HRd.out.finish hSn hat2 hmap2 HP.out.1 HP.out.2)
        clear hmap2 hat2 HRh HRd HPM HS1 hcx hp0 hp1
        go_wp2
        go_end0
        exact ⟨rfl, HX.out⟩
      · go_wp2_with fail
        go_still_tail 5, (by kernel_rfl)
        change wpList _ _ _ _ _ wr.drew
        have HRd := Lib.hid (HRh.out.drewN 1)
        change Hid (TurnRel w x pb S m L0 n p true 2 L n' wr.drew) at HRd
        refine wpList_mapUpdate_m _ rfl _ _ _ 42 rfl 48 4 pairKeyed Try.underlying42 pv_inj pb rfl _ (HPM.out.frame rfl) HS1.out p () rfl rfl (pairKey p HP.out.1 HP.out.2) ?_
        intro w2 hmap2 hat2
        rw [put_pairs] at hmap2
        have HX := Lib.hid (HRd.out.finish hSn hat2 hmap2 HP.out.1 HP.out.2)
        clear hmap2 hat2 HRh HRd HPM HS1 hcx hp0 hp1
        go_wp2
        go_end0
        exact ⟨rfl, HX.out⟩
end Go.Proofs.Ytnpkjkhlbdkclaa
