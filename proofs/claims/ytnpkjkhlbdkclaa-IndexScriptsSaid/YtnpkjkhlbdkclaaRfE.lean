/- The document's own Index: Watchers, Contacts. Condition: room. -/
import Derived.Test.YtnpkjkhlbdkclaaRfD
import Derived.Test.YtnpkjkhlbdkclaaIxBoth
set_option linter.unusedSimpArgs false
set_option linter.unusedVariables false
namespace Go.Proofs.Ytnpkjkhlbdkclaa
open Go.RowKit Go.Maps Go.MapKept Go.Proofs.YtnpkjkhlbdkclaaW.PrintWords Go.Proofs.Ytnpkjkhlbdkclaa.PIndexScripts

/-- Those on the other side, as they come. -/
def rawS (S : List Pr) (s : Nat) (u : ByteArray) : List ByteArray := (S.filter (fun p => decide (sideName s p = u))).map (sideName (1 - s))
theorem raw_take {S : List Pr} {s : Nat} {u : ByteArray} {i : Nat} {p : Pr} (hi : i < S.length) (hp : S[i] = p) : rawS (S.take (i + 1)) s u = rawS (S.take i) s u ++ (if sideName s p = u then [sideName (1 - s) p] else []) := by
  unfold rawS
  rw [filter_take hi hp, List.map_append]
  congr 1
  by_cases e : sideName s p = u
  · simp [e]
  · simp [e]
/-- What the loop that gathers names knows ahead of round i. -/
structure GathN (w wr : World) (S : List Pr) (s : Nat) (u : ByteArray) (i : Nat) (v : Value) : Prop where
  own : wr.ownsRow w.heap.size 9 1 v (rawS (S.take i) s u).length ((rawS (S.take i) s u).map Value.string)
  b : Below w.heap.size w wr
theorem GathN.start (w : World) (S : List Pr) (s : Nat) (u : ByteArray) : GathN w w S s u 0 (.slice none 0 0) := ⟨⟨rfl, .inl ⟨rfl, rfl⟩⟩, Below.refl _ _⟩
theorem GathN.skip {w wr : World} {S : List Pr} {s : Nat} {u : ByteArray} {i : Nat} {v : Value} {p : Pr} (h : GathN w wr S s u i v) (hi : i < S.length) (hp : S[i] = p) (hf : ¬ sideName s p = u) : GathN w wr S s u (i + 1) v := by
  have e : rawS (S.take (i + 1)) s u = rawS (S.take i) s u := by rw [raw_take hi hp, if_neg hf, List.append_nil]
  exact ⟨by rw [e]; exact h.own, h.b⟩
theorem GathN.len {w wr : World} {S : List Pr} {s : Nat} {u : ByteArray} {i : Nat} {v : Value} (h : GathN w wr S s u i v) : (rawS (S.take i) s u).length ≤ S.length := by
  unfold rawS
  rw [List.length_map]
  exact Nat.le_trans (List.length_filter_le _ _) (by rw [List.length_take]; omega)
theorem GathN.alloc {w wr : World} {S : List Pr} {s : Nat} {u : ByteArray} {i : Nat} {v : Value} (h : GathN w wr S s u i v) (o : Obj) : GathN w (wr.alloc o) S s u i v :=
  ⟨own_move h.own (fun g hg => Below.heap_alloc _ _ _ (own_lt h.own g hg)), h.b.alloc h.b.size _⟩
theorem GathN.keep {w wr w' : World} {S : List Pr} {s : Nat} {u : ByteArray} {i : Nat} {v v' : Value} {p : Pr} (h : GathN w wr S s u i v) (hi : i < S.length) (hp : S[i] = p) (hf : sideName s p = u)
    (ho : w'.ownsRow w.heap.size 9 1 v' ((rawS (S.take i) s u).length + 1) ((rawS (S.take i) s u).map Value.string ++ [.string (sideName (1 - s) p)])) (hg : wr.grownBy w' v.ownBlock) : GathN w w' S s u (i + 1) v' := by
  have e : rawS (S.take (i + 1)) s u = rawS (S.take i) s u ++ [sideName (1 - s) p] := by rw [raw_take hi hp, if_pos hf]
  refine ⟨?_, h.b.grown hg h.b.size (fun k hk => own_base h.own k hk)⟩
  rw [e, List.length_append, List.map_append]
  exact ho
theorem one_str (w : World) (a : ByteArray) : Reads (w.alloc (.cells #[.string a] 9)) (w.heap.size + 1) 1 (some ⟨w.heap.size, 0, none⟩) 1 [.string a] := by
  have hb := heap_alloc_new w (.cells #[.string a] 9)
  refine ⟨rfl, fun _ => ⟨_, rfl, by simp, fun j u hu => ?_⟩⟩
  match j, hu with
  | 0, hu => simp at hu; subst hu; exact cell_of_block hb

set_option maxHeartbeats 4000000 in
set_option maxRecDepth 100000 in
theorem rf_side {w0 w : World} {r : Nat} {S : List Pr} {v : Value} (h : Rf w0 w r S v) (hS : S.length ≤ 20000) (u : ByteArray) (s : Nat) (hs : s < 2) :
    Calls Try.prog 27 #[.pointer (some ⟨r, 0, none⟩), .string u, .int .i64 s] w fun e w' => ∃ v, e = .returned v ∧ Kd.R Kd.string 9 w' w.heap.size (fun _ => True) v (othersS S s u) ∧ Below w.heap.size w w' := by
  obtain ⟨A, c, rfl, hat⟩ := own_at h.own
  have hcl : ∀ w1, Below w.heap.size w w1 → w1.cell? ⟨r, 0, none⟩ = some (.slice A S.length c) := fun w1 hb => cell_of_block (h.below hb).cell
  have hat' : ∀ w1, Below w.heap.size w w1 → ∀ i (hi : i < S.length), ∃ g, A = some ⟨g, 0, none⟩ ∧ w1.cell? ⟨g, i * 2, none⟩ = some (.string S[i].1) ∧ w1.cell? ⟨g, i * 2 + 1, none⟩ = some (.string S[i].2) := fun w1 hb i hi => by
    obtain ⟨A', c', e, h1⟩ := own_at (h.below hb).own
    cases e
    exact h1 i hi
  have HAT := Lib.hid hat'
  have HCL := Lib.hid hcl
  obtain ⟨i0, hi, hzz, hsz, hbt⟩ := info_parts infoStr
  have HINF := Lib.hid (⟨hi, hzz, hsz, hbt⟩ : _ ∧ _ ∧ _ ∧ _)
  clear hat hat' hcl h hi hzz hsz hbt
  have H0 := Lib.hid (GathN.start w S s u)
  rcases (show s = 0 ∨ s = 1 by omega) with rfl | rfl
  · change Calls _ _ #[.pointer (some ⟨r, 0, none⟩), .string u, .int .i64 0] _ _
    go_enter Try.func27, Try.ntmps27
    go_wp2_with fail
    go_loopw [7, 8] (fun av iv wr => ∃ i : Nat, i ≤ S.length ∧ iv = .int .i64 i ∧ GathN w wr S 0 u i av) (fun _ iv _ => S.length - (intOf iv).toNat)
    case atStart => exact ⟨0, by omega, rfl, H0.out⟩
    case round =>
      clear H0
      obtain ⟨i, hi, rfl, HR⟩ := hrel
      have HRh := Lib.hid HR
      clear HR
      have hc0 := HCL.out _ HRh.out.b
      by_cases hil : i < S.length
      · have hil' : (i : Int) < (S.length : Int) := by omega
        have hi0 : (0 : Int) ≤ i := by omega
        obtain ⟨g, rfl, c0, c1⟩ := HAT.out _ HRh.out.b i hil
        obtain ⟨p, hp⟩ : ∃ p, S[i] = p := ⟨_, rfl⟩
        rw [hp] at c0 c1
        have HPp := Lib.hid hp
        clear hp
        obtain ⟨y, z⟩ := p
        simp only at c0 c1
        by_cases h1 : y = u
        · have t1 := teq h1
          have t2 := teq' h1
          have H1 := Lib.hid h1
          clear h1
          have HG := Lib.hid (HRh.out.alloc (.cells #[.string z] 9))
          have HPR := Lib.hid (one_str wr z)
          go_wp2_with (first
            | (at_builtin; refine wpList_append_any _ rfl _ _ 38 rfl w.heap.size 9 i0 _ 1 16 Try.underlying38 HINF.out.1 HINF.out.2.1 HINF.out.2.2.1 HINF.out.2.2.2 rfl (by decide) u7 (rawS (S.take i) 0 u).length ((rawS (S.take i) 0 u).map Value.string) rfl HG.out.own (wr.heap.size + 1) (some ⟨wr.heap.size, 0, none⟩) 1 1 [.string z] rfl HPR.out ?_ ?_ ?_ ?_ ?_)
            | fail)
          · intro q hq; simp at hq; subst hq; rfl
          · have := HG.out.len; unfold maxLen; omega
          · have := HG.out.len; omega
          · exact HG.out.b.size
          intro v2 w2 hown2 hgr2 _
          have HX := Lib.hid (HG.out.keep hil HPp.out (by simp [sideName, H1.out]) hown2 hgr2)
          clear hown2 hgr2 HG HPR HRh hc0 c0 c1
          go_wp2_with fail
          go_roundw
          case rel => exact ⟨i + 1, by omega, by go_num, HX.out⟩
          case measure => simp [intOf]; omega
        · have t1 := tne h1
          have t2 := tne' h1
          have HX := Lib.hid (HRh.out.skip hil HPp.out (by simp [sideName, h1]))
          clear h1
          go_wp2_with fail
          go_roundw
          case rel => exact ⟨i + 1, by omega, by go_num, HX.out⟩
          case measure => simp [intOf]; omega
      · have he : i = S.length := by omega
        subst he
        have hown : wr.ownsRow w.heap.size 9 1 u7 (rawS S 0 u).length ((rawS S 0 u).map Value.string) := by have := HRh.out.own; rwa [List.take_length] at this
        have HB := Lib.hid HRh.out.b
        have hlen : (rawS S 0 u).length ≤ S.length := by have := HRh.out.len; rwa [List.take_length] at this
        obtain ⟨A1, c1, rfl, hc1⟩ : ∃ A1 c1, u7 = .slice A1 (rawS S 0 u).length c1 ∧ (rawS S 0 u).length ≤ c1 := by
          rcases hown.2 with ⟨h, h2⟩ | ⟨g, cap, cur, h, _, _, h2, _⟩
          · exact ⟨none, 0, by rw [h, h2], by omega⟩
          · exact ⟨_, _, h, h2⟩
        have HMG := Lib.hid (refMerge_any A1 c1 (rawS S 0 u) wr (Kd.str_of_reads (Reads.of_own hown) (by omega)) hc1 (by omega))
        clear HRh hown hc1
        go_wp2_with fail
        refine HMG.out.mono ?_
        rintro e w2 ⟨v, rfl, hR, hb⟩
        have HR := Lib.hid (Kd.R_lower hR HB.out.size)
        have HB2 := Lib.hid (HB.out.trans (hb.mono HB.out.size))
        clear hR hb HMG
        go_wp2_with fail
        go_ret
        exact ⟨_, rfl, HR.out, HB2.out⟩
  · change Calls _ _ #[.pointer (some ⟨r, 0, none⟩), .string u, .int .i64 1] _ _
    go_enter Try.func27, Try.ntmps27
    go_wp2_with fail
    go_loopw [7, 8] (fun av iv wr => ∃ i : Nat, i ≤ S.length ∧ iv = .int .i64 i ∧ GathN w wr S 1 u i av) (fun _ iv _ => S.length - (intOf iv).toNat)
    case atStart => exact ⟨0, by omega, rfl, H0.out⟩
    case round =>
      clear H0
      obtain ⟨i, hi, rfl, HR⟩ := hrel
      have HRh := Lib.hid HR
      clear HR
      have hc0 := HCL.out _ HRh.out.b
      by_cases hil : i < S.length
      · have hil' : (i : Int) < (S.length : Int) := by omega
        have hi0 : (0 : Int) ≤ i := by omega
        obtain ⟨g, rfl, c0, c1⟩ := HAT.out _ HRh.out.b i hil
        obtain ⟨p, hp⟩ : ∃ p, S[i] = p := ⟨_, rfl⟩
        rw [hp] at c0 c1
        have HPp := Lib.hid hp
        clear hp
        obtain ⟨y, z⟩ := p
        simp only at c0 c1
        by_cases h1 : z = u
        · have t1 := teq h1
          have t2 := teq' h1
          have H1 := Lib.hid h1
          clear h1
          have HG := Lib.hid (HRh.out.alloc (.cells #[.string y] 9))
          have HPR := Lib.hid (one_str wr y)
          go_wp2_with (first
            | (at_builtin; refine wpList_append_any _ rfl _ _ 38 rfl w.heap.size 9 i0 _ 1 16 Try.underlying38 HINF.out.1 HINF.out.2.1 HINF.out.2.2.1 HINF.out.2.2.2 rfl (by decide) u7 (rawS (S.take i) 1 u).length ((rawS (S.take i) 1 u).map Value.string) rfl HG.out.own (wr.heap.size + 1) (some ⟨wr.heap.size, 0, none⟩) 1 1 [.string y] rfl HPR.out ?_ ?_ ?_ ?_ ?_)
            | fail)
          · intro q hq; simp at hq; subst hq; rfl
          · have := HG.out.len; unfold maxLen; omega
          · have := HG.out.len; omega
          · exact HG.out.b.size
          intro v2 w2 hown2 hgr2 _
          have HX := Lib.hid (HG.out.keep hil HPp.out (by simp [sideName, H1.out]) hown2 hgr2)
          clear hown2 hgr2 HG HPR HRh hc0 c0 c1
          go_wp2_with fail
          go_roundw
          case rel => exact ⟨i + 1, by omega, by go_num, HX.out⟩
          case measure => simp [intOf]; omega
        · have t1 := tne h1
          have t2 := tne' h1
          have HX := Lib.hid (HRh.out.skip hil HPp.out (by simp [sideName, h1]))
          clear h1
          go_wp2_with fail
          go_roundw
          case rel => exact ⟨i + 1, by omega, by go_num, HX.out⟩
          case measure => simp [intOf]; omega
      · have he : i = S.length := by omega
        subst he
        have hown : wr.ownsRow w.heap.size 9 1 u7 (rawS S 1 u).length ((rawS S 1 u).map Value.string) := by have := HRh.out.own; rwa [List.take_length] at this
        have HB := Lib.hid HRh.out.b
        have hlen : (rawS S 1 u).length ≤ S.length := by have := HRh.out.len; rwa [List.take_length] at this
        obtain ⟨A1, c1, rfl, hc1⟩ : ∃ A1 c1, u7 = .slice A1 (rawS S 1 u).length c1 ∧ (rawS S 1 u).length ≤ c1 := by
          rcases hown.2 with ⟨h, h2⟩ | ⟨g, cap, cur, h, _, _, h2, _⟩
          · exact ⟨none, 0, by rw [h, h2], by omega⟩
          · exact ⟨_, _, h, h2⟩
        have HMG := Lib.hid (refMerge_any A1 c1 (rawS S 1 u) wr (Kd.str_of_reads (Reads.of_own hown) (by omega)) hc1 (by omega))
        clear HRh hown hc1
        go_wp2_with fail
        refine HMG.out.mono ?_
        rintro e w2 ⟨v, rfl, hR, hb⟩
        have HR := Lib.hid (Kd.R_lower hR HB.out.size)
        have HB2 := Lib.hid (HB.out.trans (hb.mono HB.out.size))
        clear hR hb HMG
        go_wp2_with fail
        go_ret
        exact ⟨_, rfl, HR.out, HB2.out⟩
theorem rf_list {w0 w : World} {r : Nat} {S : List Pr} {v : Value} (h : Rf w0 w r S v) (hS : S.length ≤ 20000) (u : ByteArray) (s : Nat) (hs : s < 2) :
    Calls Try.prog 27 #[.pointer (some ⟨r, 0, none⟩), .string u, .int .i64 s] w fun e w' => ∃ A c, e = .returned (.slice A (othersS S s u).length c) ∧ (othersS S s u).length ≤ c ∧ Kd.C Kd.string w' A (othersS S s u).length (othersS S s u) ∧ (∀ ad, A = some ad → w.heap.size ≤ ad.block) ∧ Below w.heap.size w w' := by
  refine (rf_side h hS u s hs).mono ?_
  rintro e w' ⟨v, rfl, hR, hb⟩
  obtain ⟨A, c, rfl, hlc, hC⟩ := Kd.R_reads hR
  exact ⟨A, c, rfl, hlc, hC, fun ad e => by subst e; exact own_base (Kd.str_own hR) ad.block rfl, hb⟩
theorem rf_watchers {w0 w : World} {r : Nat} {S : List Pr} {v : Value} (h : Rf w0 w r S v) (hS : S.length ≤ 20000) (u : ByteArray) :
    Calls Try.prog 20 #[.pointer (some ⟨r, 0, none⟩), .string u] w fun e w' => ∃ A c, e = .returned (.slice A (othersS S 1 u).length c) ∧ (othersS S 1 u).length ≤ c ∧ Kd.C Kd.string w' A (othersS S 1 u).length (othersS S 1 u) ∧ (∀ ad, A = some ad → w.heap.size ≤ ad.block) ∧ Below w.heap.size w w' := by
  have HO := Lib.hid (rf_list h hS u 1 (by omega))
  clear h
  go_enter Try.func20, Try.ntmps20
  go_wp2_with fail
  refine HO.out.mono ?_
  rintro e w1 ⟨A, c, rfl, h1⟩
  have HR := Lib.hid h1
  clear h1
  go_wp2_with fail
  go_ret
  exact ⟨A, c, rfl, HR.out⟩
theorem rf_contacts {w0 w : World} {r : Nat} {S : List Pr} {v : Value} (h : Rf w0 w r S v) (hS : S.length ≤ 20000) (u : ByteArray) :
    Calls Try.prog 22 #[.pointer (some ⟨r, 0, none⟩), .string u] w fun e w' => ∃ A c, e = .returned (.slice A (othersS S 0 u).length c) ∧ (othersS S 0 u).length ≤ c ∧ Kd.C Kd.string w' A (othersS S 0 u).length (othersS S 0 u) ∧ (∀ ad, A = some ad → w.heap.size ≤ ad.block) ∧ Below w.heap.size w w' := by
  have HO := Lib.hid (rf_list h hS u 0 (by omega))
  clear h
  go_enter Try.func22, Try.ntmps22
  go_wp2_with fail
  refine HO.out.mono ?_
  rintro e w1 ⟨A, c, rfl, h1⟩
  have HR := Lib.hid h1
  clear h1
  go_wp2_with fail
  go_ret
  exact ⟨A, c, rfl, HR.out⟩
end Go.Proofs.Ytnpkjkhlbdkclaa
