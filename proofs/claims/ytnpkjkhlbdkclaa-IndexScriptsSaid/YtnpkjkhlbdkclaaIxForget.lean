/- (*Index).Watchers, Contacts, Forget. Condition: names of a length that may be, and room. -/
import Derived.Test.YtnpkjkhlbdkclaaIxOthers
set_option linter.unusedSimpArgs false
set_option linter.unusedVariables false
namespace Go.Proofs.Ytnpkjkhlbdkclaa
open Go.RowKit Go.Maps Go.MapKept Go.Proofs.YtnpkjkhlbdkclaaW.PrintWords

theorem watchers_nil (nm : ByteArray) (w : World) : Calls Try.prog 19 #[.pointer none, .string nm] w fun e w' => e = .returned (.slice none 0 0) ∧ w = w' := by
  go_enter Try.func19, Try.ntmps19
  go_wp2_with fail
  refine (others_nil nm _ w).mono ?_
  rintro e w1 ⟨rfl, rfl⟩
  go_wp2_with fail
  go_ret
  exact ⟨rfl, rfl⟩
theorem contacts_nil (nm : ByteArray) (w : World) : Calls Try.prog 21 #[.pointer none, .string nm] w fun e w' => e = .returned (.slice none 0 0) ∧ w = w' := by
  go_enter Try.func21, Try.ntmps21
  go_wp2_with fail
  refine (others_nil nm _ w).mono ?_
  rintro e w1 ⟨rfl, rfl⟩
  go_wp2_with fail
  go_ret
  exact ⟨rfl, rfl⟩
theorem watchers_any {w : World} {x : Nat} {S : List Pr} {fp : List Nat} {n : Nat} (h : Ix w x S fp n) (hM : MergeSaid) (nm : ByteArray) (hz : sz nm) (hn : n ≤ 1000000) :
    Calls Try.prog 19 #[.pointer (some ⟨x, 0, none⟩), .string nm] w (OthersPost w S 1 nm) := by
  have HO := Lib.hid (others_any h hM nm hz 1 (by omega) hn)
  clear h hM
  go_enter Try.func19, Try.ntmps19
  go_wp2_with fail
  refine HO.out.mono ?_
  rintro e w1 ⟨v, rfl, hR, hb⟩
  have HR := Lib.hid (⟨hR, hb⟩ : _ ∧ _)
  clear hR hb
  go_wp2_with fail
  go_ret
  exact ⟨_, rfl, HR.out.1, HR.out.2⟩
theorem contacts_any {w : World} {x : Nat} {S : List Pr} {fp : List Nat} {n : Nat} (h : Ix w x S fp n) (hM : MergeSaid) (nm : ByteArray) (hz : sz nm) (hn : n ≤ 1000000) :
    Calls Try.prog 21 #[.pointer (some ⟨x, 0, none⟩), .string nm] w (OthersPost w S 0 nm) := by
  have HO := Lib.hid (others_any h hM nm hz 0 (by omega) hn)
  clear h hM
  go_enter Try.func21, Try.ntmps21
  go_wp2_with fail
  refine HO.out.mono ?_
  rintro e w1 ⟨v, rfl, hR, hb⟩
  have HR := Lib.hid (⟨hR, hb⟩ : _ ∧ _)
  clear hR hb
  go_wp2_with fail
  go_ret
  exact ⟨_, rfl, HR.out.1, HR.out.2⟩

/-- Pairs without a name: on sides below k. -/
def forgetS (S : List Pr) (u : ByteArray) (k : Nat) : List Pr := S.filter (fun p => decide (k = 0 ∨ p.1 ≠ u) && decide (k ≤ 1 ∨ p.2 ≠ u))
/-- .. and of side k, without those whose other name is of a list. -/
def partS (S : List Pr) (u : ByteArray) (k : Nat) (l : List ByteArray) : List Pr := S.filter (fun p => !(decide (sideName k p = u) && l.any (fun o => decide (o = sideName (1 - k) p))))
def mkP (k : Nat) (u o : ByteArray) : Pr := if k = 0 then (u, o) else (o, u)
theorem mkP_side {k : Nat} (hk : k < 2) (u o : ByteArray) : sideName k (mkP k u o) = u ∧ sideName (1 - k) (mkP k u o) = o := by
  rcases (show k = 0 ∨ k = 1 by omega) with rfl | rfl <;> simp [sideName, mkP]
theorem side_mkP {k : Nat} (hk : k < 2) (p : Pr) : mkP k (sideName k p) (sideName (1 - k) p) = p := by
  rcases (show k = 0 ∨ k = 1 by omega) with rfl | rfl <;> simp [sideName, mkP]
theorem forgetS_zero (S : List Pr) (u : ByteArray) : forgetS S u 0 = S := by unfold forgetS; simp
theorem partS_nil (S : List Pr) (u : ByteArray) (k : Nat) : partS S u k [] = S := by unfold partS; simp
theorem partS_snoc {S : List Pr} {u : ByteArray} {k : Nat} (hk : k < 2) (l : List ByteArray) (o : ByteArray) : partS S u k (l ++ [o]) = setS (partS S u k l) (mkP k u o) false := by
  unfold partS setS
  simp only [Bool.false_eq_true, if_false, List.filter_filter]
  refine List.filter_congr (fun p _ => ?_)
  have hs := side_mkP hk p
  by_cases h1 : sideName k p = u
  · by_cases h2 : o = sideName (1 - k) p
    · have : p = mkP k u o := by rw [← h1, h2, hs]
      have h3 : p = mkP k u (sideName (1 - k) p) := by rw [← h1]; exact hs.symm
      simp [h1, h2]
      exact fun hne => absurd h3 hne
    · have : ¬ p = mkP k u o := fun e => h2 (by rw [e]; exact (mkP_side hk u o).2.symm)
      simp [h1, h2, this]
  · have : ¬ p = mkP k u o := fun e => h1 (by rw [e]; exact (mkP_side hk u o).1)
    simp [h1, this]
theorem partS_all {S : List Pr} {u : ByteArray} {k : Nat} (hk : k < 2) : partS (forgetS S u k) u k (othersS (forgetS S u k) k u) = forgetS S u (k + 1) := by
  unfold partS
  conv => rhs; unfold forgetS
  have e : forgetS S u k = S.filter (fun p => decide (k = 0 ∨ p.1 ≠ u) && decide (k ≤ 1 ∨ p.2 ≠ u)) := rfl
  have hmem : ∀ p ∈ forgetS S u k, (othersS (forgetS S u k) k u).any (fun o => decide (o = sideName (1 - k) p)) = true ∨ sideName k p ≠ u := fun p hp => by
    by_cases h : sideName k p = u
    · left
      rw [List.any_eq_true]
      refine ⟨sideName (1 - k) p, ?_, by simp⟩
      unfold othersS
      rw [mergeN_mem, List.mem_map]
      exact ⟨p, List.mem_filter.2 ⟨hp, by simpa using h⟩, rfl⟩
    · exact .inr h
  have h1 : (forgetS S u k).filter (fun p => !(decide (sideName k p = u) && (othersS (forgetS S u k) k u).any (fun o => decide (o = sideName (1 - k) p)))) = (forgetS S u k).filter (fun p => !decide (sideName k p = u)) := by
    refine List.filter_congr (fun p hp => ?_)
    rcases hmem p hp with h | h
    · rw [h]; simp
    · simp [h]
  rw [h1, e, List.filter_filter]
  refine List.filter_congr (fun p _ => ?_)
  rcases (show k = 0 ∨ k = 1 by omega) with rfl | rfl
  · simp [sideName]
  · simp [sideName]
    by_cases h1 : p.1 = u <;> by_cases h2 : p.2 = u <;> simp [h1, h2]

def ForgetPost (w : World) (x : Nat) (S : List Pr) (fp : List Nat) (n : Nat) (u : ByteArray) (e : Ending) (w' : World) : Prop :=
  e = .returned (.int .i64 ((S.length : Int) - ((forgetS S u 2).length : Int))) ∧ ∃ fp', Ix w' x (forgetS S u 2) fp' n ∧ (∀ i ∈ fp', i ∈ fp ∨ w.heap.size ≤ i) ∧ Mods w w' fp

theorem forget_nil (u : ByteArray) (w : World) : Calls Try.prog 15 #[.pointer none, .string u] w fun e w' => e = .returned (.int .i64 0) ∧ Below w.heap.size w w' := by
  go_enter Try.func15, Try.ntmps15
  go_wp2_with fail
  go_step3
  go_wp2_with fail
  refine (len_nil w).mono ?_
  rintro e w1 ⟨rfl, rfl⟩
  go_wp2_with fail
  go_step3
  go_wp2_with fail
  refine wp_loop_rounds 1 ?_
  rw [rounds_succ]
  go_wp2_with fail
  refine (len_nil _).mono ?_
  rintro e w1 ⟨rfl, rfl⟩
  go_wp2_with fail
  rw [Exit.noGoto_ret]
  go_ret
  exact ⟨rfl, (Below.refl _ _).alloc (Nat.le_refl _) _⟩

/-- At the head of a side. -/
structure FgRel (w0 : World) (x : Nat) (S : List Pr) (fp0 : List Nat) (n : Nat) (u : ByteArray) (k : Nat) (wr : World) (fp : List Nat) : Prop where
  ix : Ix wr x (forgetS S u k) fp n
  own : ∀ i ∈ fp, i ∈ fp0 ∨ w0.heap.size ≤ i
  mods : Mods w0 wr fp0
  pair : wr.heap[w0.heap.size]? = some (.cells #[.string u, .string u] 48 (0, 0))
  far : w0.heap.size ∉ fp
/-- Inside a side: i of the others are gone. -/
structure FgIn (w0 : World) (x : Nat) (S : List Pr) (fp0 : List Nat) (n : Nat) (u : ByteArray) (k : Nat) (w2 : World) (fp2 : List Nat) (l : List ByteArray) (i : Nat) (wr : World) (fp : List Nat) : Prop where
  ix : Ix wr x (partS (forgetS S u k) u k (l.take i)) fp n
  own : ∀ i ∈ fp, i ∈ fp2 ∨ w2.heap.size ≤ i
  mods : Mods w2 wr fp2
def FgLoop (w0 : World) (x : Nat) (S : List Pr) (fp0 : List Nat) (n : Nat) (u : ByteArray) (k : Nat) (wr : World) : Prop := ∃ fp, FgRel w0 x S fp0 n u k wr fp
def FgInLoop (w0 : World) (x : Nat) (S : List Pr) (fp0 : List Nat) (n : Nat) (u : ByteArray) (k : Nat) (w2 : World) (fp2 : List Nat) (l : List ByteArray) (i : Nat) (wr : World) : Prop := ∃ fp, FgIn w0 x S fp0 n u k w2 fp2 l i wr fp

theorem FgRel.start {w0 : World} {x : Nat} {S : List Pr} {fp0 : List Nat} {n : Nat} (h : Ix w0 x S fp0 n) (u : ByteArray) : FgRel w0 x S fp0 n u 0 (w0.alloc (.cells #[.string u, .string u] 48)) fp0 :=
  ⟨by rw [forgetS_zero]; exact h.frame (fun i hi => Below.heap_alloc _ _ _ (h.lt i hi)), fun i hi => .inl hi, (Mods.refl _ _).alloc _, heap_alloc_new _ _, fun hm => by have := h.lt _ hm; omega⟩
theorem FgRel.below {w0 : World} {x : Nat} {S : List Pr} {fp0 : List Nat} {n : Nat} {u : ByteArray} {k : Nat} {wr w2 : World} {fp : List Nat} (h : FgRel w0 x S fp0 n u k wr fp) (hb : Below wr.heap.size wr w2) : FgRel w0 x S fp0 n u k w2 fp :=
  ⟨h.ix.below hb, h.own, h.mods.trans (Mods.of_below hb []) (fun i hi => by simp at hi), (hb.block _ (Array.getElem?_eq_some_iff.1 h.pair).1).trans h.pair, h.far⟩
theorem FgIn.start {w0 : World} {x : Nat} {S : List Pr} {fp0 : List Nat} {n : Nat} {u : ByteArray} {k : Nat} {w2 : World} {fp2 : List Nat} (h : FgRel w0 x S fp0 n u k w2 fp2) (l : List ByteArray) : FgIn w0 x S fp0 n u k w2 fp2 l 0 w2 fp2 :=
  ⟨by rw [List.take_zero, partS_nil]; exact h.ix, fun i hi => .inl hi, Mods.refl _ _⟩
theorem FgIn.done {w0 : World} {x : Nat} {S : List Pr} {fp0 : List Nat} {n : Nat} {u : ByteArray} {k : Nat} {w2 : World} {fp2 : List Nat} (h : FgRel w0 x S fp0 n u k w2 fp2) (hk : k < 2) {wr : World} {fp : List Nat}
    (hi : FgIn w0 x S fp0 n u k w2 fp2 (othersS (forgetS S u k) k u) (othersS (forgetS S u k) k u).length wr fp) : FgRel w0 x S fp0 n u (k + 1) wr fp := by
  have hA : w0.heap.size < w2.heap.size := (Array.getElem?_eq_some_iff.1 h.pair).1
  refine ⟨?_, fun i hm => ?_, h.mods.trans hi.mods h.own, (hi.mods.block _ hA h.far).trans h.pair, fun hm => ?_⟩
  · have := hi.ix
    rw [List.take_length, partS_all hk] at this
    exact this
  · rcases hi.own i hm with h1 | h1
    · exact h.own i h1
    · exact .inr (Nat.le_trans h.mods.size h1)
  · rcases hi.own _ hm with h1 | h1
    · exact h.far h1
    · omega
/-- The pair that goes next is there. -/
theorem part_mem {S : List Pr} {u : ByteArray} {k : Nat} (hk : k < 2) {i : Nat} {o : ByteArray} (ho : (othersS S k u)[i]? = some o) : mkP k u o ∈ partS S u k ((othersS S k u).take i) := by
  have hm : o ∈ othersS S k u := List.mem_of_getElem? ho
  have hn : (othersS S k u).Nodup := nodup_of_rising (mergeN_rising _)
  unfold othersS at hm
  rw [mergeN_mem, List.mem_map] at hm
  obtain ⟨p, hp, rfl⟩ := hm
  obtain ⟨hp1, hp2⟩ := List.mem_filter.1 hp
  have hp3 : sideName k p = u := by simpa using hp2
  have e : mkP k u (sideName (1 - k) p) = p := by rw [← hp3]; exact side_mkP hk p
  rw [e]
  unfold partS
  refine List.mem_filter.2 ⟨hp1, ?_⟩
  have hnot : ¬ ((othersS S k u).take i).any (fun o => decide (o = sideName (1 - k) p)) = true := by
    intro h
    rw [List.any_eq_true] at h
    obtain ⟨o', ho', h2⟩ := h
    have h3 : o' = sideName (1 - k) p := by simpa using h2
    subst h3
    rw [List.mem_take_iff_getElem] at ho'
    obtain ⟨j, hj, h4⟩ := ho'
    have hj2 : j < (othersS S k u).length := by omega
    have h5 : (othersS S k u)[j]? = some (sideName (1 - k) p) := by rw [List.getElem?_eq_getElem hj2, h4]
    have : j = i := (List.getElem?_inj hj2 hn).1 (h5.trans ho.symm)
    omega
  simp [hnot]
theorem FgIn.step {w0 : World} {x : Nat} {S : List Pr} {fp0 : List Nat} {n : Nat} {u : ByteArray} {k : Nat} {w2 : World} {fp2 : List Nat} (hk : k < 2) {wr w3 w4 : World} {fp fp4 : List Nat} {i n4 : Nat} {o : ByteArray}
    (h : FgIn w0 x S fp0 n u k w2 fp2 (othersS (forgetS S u k) k u) i wr fp) (ho : (othersS (forgetS S u k) k u)[i]? = some o) (hb : Below wr.heap.size wr w3)
    (hix : Ix w4 x (setS (partS (forgetS S u k) u k ((othersS (forgetS S u k) k u).take i)) (mkP k u o) false) fp4 n4)
    (hn : n4 ≤ n ∨ (mkP k u o ∉ partS (forgetS S u k) u k ((othersS (forgetS S u k) k u).take i) ∧ n4 ≤ n + 2)) (hown : ∀ i ∈ fp4, i ∈ fp ∨ w3.heap.size ≤ i) (hm : Mods w3 w4 fp) :
    FgIn w0 x S fp0 n u k w2 fp2 (othersS (forgetS S u k) k u) (i + 1) w4 fp4 := by
  have hn4 : n4 ≤ n := by
    rcases hn with h1 | ⟨h1, _⟩
    · exact h1
    · exact absurd (part_mem hk ho) h1
  have htake : (othersS (forgetS S u k) k u).take (i + 1) = (othersS (forgetS S u k) k u).take i ++ [o] := by
    have hl := (List.getElem?_eq_some_iff.1 ho).1
    rw [List.take_succ_eq_append_getElem hl]
    congr 2
    have := ho
    rw [List.getElem?_eq_getElem hl] at this
    exact Option.some.inj this
  refine ⟨?_, fun j hj => ?_, ?_⟩
  · rw [htake, partS_snoc hk]
    exact hix.mono hn4
  · rcases hown j hj with h1 | h1
    · exact h.own j h1
    · exact .inr (Nat.le_trans h.mods.size (Nat.le_trans hb.size h1))
  · exact (h.mods.trans (Mods.of_below hb []) (fun i hi => by simp at hi)).trans hm h.own

set_option maxHeartbeats 2000000 in
set_option maxRecDepth 100000 in
theorem forget_any {w : World} {x : Nat} {S : List Pr} {fp0 : List Nat} {n : Nat} (h : Ix w x S fp0 n) (hM : MergeSaid) (u : ByteArray) (hz : sz u) (hn : n ≤ 1000000) :
    Calls Try.prog 15 #[.pointer (some ⟨x, 0, none⟩), .string u] w (ForgetPost w x S fp0 n u) := by
  have hSn := h.len
  have hS2 : (forgetS S u 2).length ≤ S.length := List.length_filter_le _ _
  have HL := Lib.hid (len_any h)
  have H0 := Lib.hid (FgRel.start h u)
  clear h
  go_enter Try.func15, Try.ntmps15
  go_wp2_with fail
  go_step3
  go_wp2_with fail
  refine HL.out.mono ?_
  rintro e w1 ⟨rfl, rfl⟩
  go_wp2_with fail
  go_step3
  go_wp2_with fail
  go_loopw [16] (fun i wr => ∃ k : Nat, k ≤ 2 ∧ i = .int .i64 k ∧ FgLoop w x S fp0 n u k wr) (fun i _ => 2 - (intOf i).toNat)
  case atStart => exact ⟨0, by omega, rfl, _, H0.out⟩
  case round =>
    clear H0 HL
    obtain ⟨k, hk, rfl, fp, HR⟩ := hrel
    rcases (show k = 0 ∨ k = 1 ∨ k = 2 by omega) with rfl | rfl | rfl
    · have hlt : (0 : Nat) < 2 := by omega
      obtain ⟨wo, rfl⟩ : ∃ wo : World, wo = wr := ⟨_, rfl⟩
      have HO := Lib.hid (others_any HR.ix hM u hz 0 (by omega) hn)
      have HRh := Lib.hid HR
      clear HR
      rw [show ((0 : Nat) : Int) = 0 from rfl]
      go_wp2_with fail
      refine HO.out.mono ?_
      rintro e w2 ⟨v, rfl, hR, hb⟩
      obtain ⟨A, c, rfl, hlc, hC⟩ := Kd.R_reads hR
      have hrd := Kd.str_reads hC
      have hlm : (othersS (forgetS S u 0) 0 u).length ≤ 9223372036854775807 := hC.2.1
      have HB := Lib.hid hb
      have HOWN := Lib.hid (Kd.str_own hR)
      have HRD := Lib.hid hrd
      have HR2 := Lib.hid (HRh.out.below hb)
      clear hR hb hC hrd HO
      obtain ⟨l, hl⟩ : ∃ l, l = othersS (forgetS S u 0) 0 u := ⟨_, rfl⟩
      rw [← hl] at hlc hlm HRD HOWN ⊢
      have HLL := Lib.hid hl
      clear hl
      go_wp2_with fail
      go_loopw [26] (fun i wr => ∃ j : Nat, j ≤ l.length ∧ i = .int .i64 j ∧ FgInLoop w x S fp0 n u 0 w2 fp l j wr) (fun i _ => l.length - (intOf i).toNat)
      case atStart => exact ⟨0, Nat.zero_le _, rfl, _, FgIn.start HR2.out l⟩
      case round =>
        obtain ⟨j, hj, rfl, fp3, HI⟩ := hrel
        by_cases hjl : j < l.length
        · have hjl' : (j : Int) < (l.length : Int) := by omega
          have hA2 : w.heap.size < w2.heap.size := (Array.getElem?_eq_some_iff.1 HR2.out.pair).1
          obtain ⟨ad, v, rfl, hab, hv, hcell⟩ := HRD.out.at_ hjl
          obtain ⟨o, ho⟩ : ∃ o, l[j]? = some o := ⟨l[j], List.getElem?_eq_getElem hjl⟩
          obtain rfl : v = .string o := by rw [List.getElem?_map, ho] at hv; exact (Option.some.inj hv).symm
          have hadf : ad.block ∉ fp := fun hm => by
            have h1 := HRh.out.ix.lt _ hm
            have h2 : wo.heap.size ≤ ad.block := own_base HOWN.out ad.block rfl
            omega
          have hc3 : wr.cell? (ad.add j) = some (.string o) := by
            rw [World.cell?_of_block (w := w2) (HI.mods.block _ (by rw [block_of_add]; exact hab) (by rw [block_of_add]; exact hadf))]
            exact hcell
          have hpair3 : wr.heap[w.heap.size]? = some (.cells #[.string u, .string u] 48 (0, 0)) := (HI.mods.block _ hA2 HR2.out.far).trans HR2.out.pair
          have hq0 := cell_of_block (i := 0) hpair3
          have hq1 := cell_of_block (i := 1) hpair3
          have hso : sz o := by
            have hm : o ∈ othersS (forgetS S u 0) 0 u := by rw [← HLL.out]; exact List.mem_of_getElem? ho
            unfold othersS at hm
            rw [mergeN_mem, List.mem_map] at hm
            obtain ⟨p, hp, rfl⟩ := hm
            have hnm := HR2.out.ix.names p (List.mem_filter.1 hp).1
            exact hnm.2
          have HT := Lib.hid (fun (W : World) (hW : Below wr.heap.size wr W) => turn_ix (HI.ix.below hW) (u, o) false (by unfold maxLen; omega) hz hso)
          have HIh := Lib.hid HI
          have HOO := Lib.hid ho
          clear HI ho hv hcell hpair3
          go_wp2_with fail
          have hbl : Below wr.heap.size wr (wr.alloc (.cells #[.string u, .string o] 48)) := (Below.refl _ _).alloc (Nat.le_refl _) _
          refine (HT.out _ hbl).mono ?_
          rintro e w4 ⟨rfl, fp4, n4, hix, hn4, hown4, hm4⟩
          have HN := Lib.hid (show FgInLoop w x S fp0 n u 0 w2 fp l (j + 1) w4 from by
            have h1 := HIh.out
            have h2 := HOO.out
            rw [HLL.out] at h1 h2 hix hn4 ⊢
            exact ⟨fp4, h1.step hlt h2 hbl hix hn4 hown4 hm4⟩)
          clear hix hn4 hown4 hm4 hbl HT HIh HOO hq0 hq1 hc3 hadf
          go_wp2
          go_roundw
          case rel => exact ⟨j + 1, by omega, by go_num, HN.out⟩
          case measure => simp [intOf]; omega
        · obtain rfl : j = l.length := by omega
          have HD := Lib.hid (show FgLoop w x S fp0 n u 1 wr from by
            rw [HLL.out] at HI
            exact ⟨fp3, FgIn.done HR2.out hlt HI⟩)
          clear HI
          go_wp2
          go_roundw
          case rel => exact ⟨1, by omega, by go_num, HD.out⟩
          case measure => simp [intOf]
    · have hlt : (1 : Nat) < 2 := by omega
      obtain ⟨wo, rfl⟩ : ∃ wo : World, wo = wr := ⟨_, rfl⟩
      have HO := Lib.hid (others_any HR.ix hM u hz 1 (by omega) hn)
      have HRh := Lib.hid HR
      clear HR
      rw [show ((1 : Nat) : Int) = 1 from rfl]
      go_wp2_with fail
      refine HO.out.mono ?_
      rintro e w2 ⟨v, rfl, hR, hb⟩
      obtain ⟨A, c, rfl, hlc, hC⟩ := Kd.R_reads hR
      have hrd := Kd.str_reads hC
      have hlm : (othersS (forgetS S u 1) 1 u).length ≤ 9223372036854775807 := hC.2.1
      have HB := Lib.hid hb
      have HOWN := Lib.hid (Kd.str_own hR)
      have HRD := Lib.hid hrd
      have HR2 := Lib.hid (HRh.out.below hb)
      clear hR hb hC hrd HO
      obtain ⟨l, hl⟩ : ∃ l, l = othersS (forgetS S u 1) 1 u := ⟨_, rfl⟩
      rw [← hl] at hlc hlm HRD HOWN ⊢
      have HLL := Lib.hid hl
      clear hl
      go_wp2_with fail
      go_loopw [26] (fun i wr => ∃ j : Nat, j ≤ l.length ∧ i = .int .i64 j ∧ FgInLoop w x S fp0 n u 1 w2 fp l j wr) (fun i _ => l.length - (intOf i).toNat)
      case atStart => exact ⟨0, Nat.zero_le _, rfl, _, FgIn.start HR2.out l⟩
      case round =>
        obtain ⟨j, hj, rfl, fp3, HI⟩ := hrel
        by_cases hjl : j < l.length
        · have hjl' : (j : Int) < (l.length : Int) := by omega
          have hA2 : w.heap.size < w2.heap.size := (Array.getElem?_eq_some_iff.1 HR2.out.pair).1
          obtain ⟨ad, v, rfl, hab, hv, hcell⟩ := HRD.out.at_ hjl
          obtain ⟨o, ho⟩ : ∃ o, l[j]? = some o := ⟨l[j], List.getElem?_eq_getElem hjl⟩
          obtain rfl : v = .string o := by rw [List.getElem?_map, ho] at hv; exact (Option.some.inj hv).symm
          have hadf : ad.block ∉ fp := fun hm => by
            have h1 := HRh.out.ix.lt _ hm
            have h2 : wo.heap.size ≤ ad.block := own_base HOWN.out ad.block rfl
            omega
          have hc3 : wr.cell? (ad.add j) = some (.string o) := by
            rw [World.cell?_of_block (w := w2) (HI.mods.block _ (by rw [block_of_add]; exact hab) (by rw [block_of_add]; exact hadf))]
            exact hcell
          have hpair3 : wr.heap[w.heap.size]? = some (.cells #[.string u, .string u] 48 (0, 0)) := (HI.mods.block _ hA2 HR2.out.far).trans HR2.out.pair
          have hq0 := cell_of_block (i := 0) hpair3
          have hq1 := cell_of_block (i := 1) hpair3
          have hso : sz o := by
            have hm : o ∈ othersS (forgetS S u 1) 1 u := by rw [← HLL.out]; exact List.mem_of_getElem? ho
            unfold othersS at hm
            rw [mergeN_mem, List.mem_map] at hm
            obtain ⟨p, hp, rfl⟩ := hm
            have hnm := HR2.out.ix.names p (List.mem_filter.1 hp).1
            exact hnm.1
          have HT := Lib.hid (fun (W : World) (hW : Below wr.heap.size wr W) => turn_ix (HI.ix.below hW) (o, u) false (by unfold maxLen; omega) hso hz)
          have HIh := Lib.hid HI
          have HOO := Lib.hid ho
          clear HI ho hv hcell hpair3
          go_wp2_with fail
          have hbl : Below wr.heap.size wr (wr.alloc (.cells #[.string o, .string u] 48)) := (Below.refl _ _).alloc (Nat.le_refl _) _
          refine (HT.out _ hbl).mono ?_
          rintro e w4 ⟨rfl, fp4, n4, hix, hn4, hown4, hm4⟩
          have HN := Lib.hid (show FgInLoop w x S fp0 n u 1 w2 fp l (j + 1) w4 from by
            have h1 := HIh.out
            have h2 := HOO.out
            rw [HLL.out] at h1 h2 hix hn4 ⊢
            exact ⟨fp4, h1.step hlt h2 hbl hix hn4 hown4 hm4⟩)
          clear hix hn4 hown4 hm4 hbl HT HIh HOO hq0 hq1 hc3 hadf
          go_wp2
          go_roundw
          case rel => exact ⟨j + 1, by omega, by go_num, HN.out⟩
          case measure => simp [intOf]; omega
        · obtain rfl : j = l.length := by omega
          have HD := Lib.hid (show FgLoop w x S fp0 n u 2 wr from by
            rw [HLL.out] at HI
            exact ⟨fp3, FgIn.done HR2.out hlt HI⟩)
          clear HI
          go_wp2
          go_roundw
          case rel => exact ⟨2, by omega, by go_num, HD.out⟩
          case measure => simp [intOf]
    · have HL2 := Lib.hid (fun (W : World) => HR.ix)
      have HLL := Lib.hid (len_any HR.ix)
      have HRh := Lib.hid HR
      clear HR
      go_wp2_with fail
      refine HLL.out.mono ?_
      rintro e w1 ⟨rfl, rfl⟩
      go_wp2_with fail
      rw [Exit.noGoto_ret]
      go_ret
      exact ⟨rfl, fp, HRh.out.ix, HRh.out.own, HRh.out.mods⟩
end Go.Proofs.Ytnpkjkhlbdkclaa
