/- IndexScripts: the walk of the law. Condition: the list of calls lies in memory. -/
import Derived.Test.YtnpkjkhlbdkclaaRfE
import Derived.Deep.RegionHeld3
import Derived.BigQuiet
set_option linter.unusedSimpArgs false
set_option linter.unusedVariables false
namespace Go.Proofs.Ytnpkjkhlbdkclaa
open Go.RowKit Go.Maps Go.MapKept Go.Proofs.YtnpkjkhlbdkclaaW.PrintWords Go.Proofs.Ytnpkjkhlbdkclaa.PIndexScripts

/-- What the loop knows: the two Indexes hold the same pairs, apart in memory. -/
structure ScAt (w wr : World) (x r : Nat) (n : Nat) (S : List Pr) (fp : List Nat) (v : Value) : Prop where
  lv : Lv w wr x S n fp
  rf : Rf w wr r S v
  apart : ∀ i ∈ fp, i ∉ fr r v
theorem ScAt.below {w wr w' : World} {x r n : Nat} {S : List Pr} {fp : List Nat} {v : Value} (h : ScAt w wr x r n S fp v) (hb : Below wr.heap.size wr w') : ScAt w w' x r n S fp v := ⟨h.lv.below hb, h.rf.below hb, h.apart⟩
theorem ScAt.len {w wr : World} {x r n : Nat} {S : List Pr} {fp : List Nat} {v : Value} (h : ScAt w wr x r n S fp v) : S.length ≤ n := h.lv.ix.len
/-- The Index was turned; the other one is to be. -/
structure ScMid (w wr : World) (x r : Nat) (n : Nat) (S S' : List Pr) (fp : List Nat) (v : Value) : Prop where
  lv : Lv w wr x S' n fp
  rf : Rf w wr r S v
  apart : ∀ i ∈ fp, i ∉ fr r v
theorem ScAt.turn {w wr w3 : World} {x r n n' : Nat} {S S' : List Pr} {fp fp' : List Nat} {v : Value} (h : ScAt w wr x r n S fp v) (hl : Lv w w3 x S' n' fp') (hs : Step wr w3 fp fp') : ScMid w w3 x r n' S S' fp' v := by
  have h1 := h.rf.other hs h.lv.own (fun i hi hm => h.apart i hm hi)
  exact ⟨hl, h1.1, fun i hi hm => h1.2 i hm hi⟩
theorem ScMid.turn {w wr w3 : World} {x r n : Nat} {S S' : List Pr} {fp : List Nat} {v v' : Value} (h : ScMid w wr x r n S S' fp v) (hr : Rf w w3 r S' v') (hs : Step wr w3 (fr r v) (fr r v')) : ScAt w w3 x r n S' fp v' := by
  have h1 := h.lv.other hs h.rf.ge_ h.apart
  exact ⟨h1.1, hr, h1.2⟩
theorem ScAt.mono {w wr : World} {x r n n' : Nat} {S : List Pr} {fp : List Nat} {v : Value} (h : ScAt w wr x r n S fp v) (hn : n ≤ n') : ScAt w wr x r n' S fp v := ⟨h.lv.mono hn, h.rf, h.apart⟩
theorem ScAt.cell {w wr : World} {x r n : Nat} {S : List Pr} {fp : List Nat} {v : Value} (h : ScAt w wr x r n S fp v) : ∃ A c, v = .slice A S.length c ∧ wr.cell? ⟨r, 0, none⟩ = some (.slice A S.length c) := by
  obtain ⟨A, c, rfl, _⟩ := own_at h.rf.own
  exact ⟨A, c, rfl, cell_of_block h.rf.cell⟩
theorem ScAt.cell' {w wr : World} {x r n : Nat} {S : List Pr} {fp : List Nat} {v : Value} (h : ScAt w wr x r n S fp v) : wr.cell? ⟨r, 0, none⟩ = some v := cell_of_block h.rf.cell
/-- A list that has come out of a call. -/
theorem C_keep {w w' : World} {A : Option Addr} {l : List ByteArray} (h : Kd.C Kd.string w A l.length l) (hb : Below w.heap.size w w') : Kd.C Kd.string w' A l.length l := Kd.C_below h hb

set_option maxHeartbeats 8000000 in
set_option maxRecDepth 100000 in
theorem scripts_law (A : Option Addr) (cap : Nat) (l : List Opn) (w : World) (hC : Kd.C kOpn w A l.length l) (hcap : l.length ≤ cap) :
    Calls Try.prog 3 #[.slice A l.length cap] w fun e w' => e = .returned (.bool true) ∧ Below w.heap.size w w' := by
  have HC := Lib.hid hC
  clear hC
  cases hf : fewB l with
  | false =>
    go_enter Try.func3, Try.ntmps3
    go_wp2_with fail
    refine (few_any A cap l w HC.out hcap false hf).mono ?_
    rintro e w0 ⟨rfl, hb⟩
    have HB := Lib.hid hb
    clear hb
    go_wp2_with fail
    refine (live_any _).mono ?_
    rintro e w1 ⟨rfl, hb⟩
    have HB2 := Lib.hid (HB.out.trans (hb.mono HB.out.size))
    clear hb
    go_wp2_with fail
    go_ret
    exact ⟨rfl, HB2.out⟩
  | true =>
    have HF := Lib.hid (fewB_iff hf)
    have hlen : l.length ≤ 80 := HF.out.1
    go_enter Try.func3, Try.ntmps3
    go_wp2_with fail
    refine (few_any A cap l w HC.out hcap true hf).mono ?_
    rintro e w0 ⟨rfl, hb⟩
    have HB := Lib.hid hb
    clear hb
    go_wp2_with fail
    refine (lv_new HB.out).mono ?_
    rintro e w1 ⟨x, fp0, rfl, h0, _, _⟩
    have H1 := Lib.hid (show ScAt w (w1.alloc (.cells #[.slice none 0 0] 30)) x w1.heap.size 0 [] fp0 (.slice none 0 0) from
      ⟨h0.below ((Below.refl _ _).alloc (Nat.le_refl _) _), Rf.new h0.b, fun i hi hm => by
        have := h0.ix.lt i hi
        rcases mem_fr.1 hm with rfl | h
        · omega
        · simp [Value.ownBlock] at h⟩)
    clear h0 HB hf
    go_wp2_with fail
    generalize w1.heap.size = r at *
    generalize w1.alloc (.cells #[.slice none 0 0] 30) = w2 at *
    go_loopw [5] (fun i wr => ∃ (k : Nat) (S : List Pr) (fp : List Nat) (v : Value), k ≤ l.length ∧ i = .int .i64 k ∧ ScAt w wr x r (2 * k) S fp v) (fun i _ => l.length - (intOf i).toNat)
    case atStart => exact ⟨0, [], fp0, _, by omega, rfl, H1.out⟩
    case round =>
      clear H1
      obtain ⟨k, S, fp, v, hk, rfl, HR⟩ := hrel
      have HRh := Lib.hid HR
      clear HR
      by_cases hlt : k < l.length
      · have hlt' : (k : Int) < (l.length : Int) := by omega
        have hlt0 : (0 : Int) ≤ k := by omega
        obtain ⟨ad, rfl, z0, z1, z2⟩ := op_at HC.out HRh.out.lv.b k hlt
        clear z0 z1 z2
        have hsz := HF.out.2 k hlt
        obtain ⟨o, ho⟩ : ∃ o : Opn, l[k] = o := ⟨_, rfl⟩
        rw [ho] at hsz
        obtain ⟨d, p, q⟩ := o
        have HI := Lib.hid (show ∀ (w1 : World) (hb : Below w.heap.size w w1), w1.cell? (ad.add (k * 3)) = some (.int .i64 d) ∧ w1.cell? ⟨(ad.add (k * 3)).block, (ad.add (k * 3)).off + 1, none⟩ = some (.string p) ∧ w1.cell? ⟨(ad.add (k * 3)).block, (ad.add (k * 3)).off + 2, none⟩ = some (.string q) from fun w1 hb => op_in HC.out hb k hlt ho)
        simp only at hsz
        have HP := Lib.hid (sz_of hsz.1)
        have HQ := Lib.hid (sz_of hsz.2)
        clear hsz ho
        obtain ⟨c0, c1, c2⟩ := HI.out _ HRh.out.lv.b
        go_wp2_with fail
        go_quiet (fail)
        have HX := Lib.hid (HRh.out.below (w' := wr.drewN nq) (Below.drewN' (Below.refl _ _) _))
        clear HRh c0 c1 c2
        generalize wr.drewN nq = w2 at *
        obtain ⟨c0, c1, c2⟩ := HI.out _ HX.out.lv.b
        by_cases d0 : d = 0
        · subst d0
          go_wp2_with fail
          go_region_held3 (fun w' => w'.cell? (ad.add (k * 3)) = some (.int .i64 0)) (first | exact c0 | exact (HI.out _ HX5.out.lv.b).1 | exact (HI.out _ HM.out.lv.b).1)
            (first
              | (go_at_call 12
                 refine (rf_set HM.out.rf (by have := HX.out.len; omega) p q _).mono ?_
                 rintro e w5 ⟨rfl, v5, h5, hs5⟩
                 have HX5 := Lib.hid (HM.out.turn h5 hs5)
                 clear h5 hs5)
              | (go_at_call 11
                 refine (lv_set (HX.out.lv.below (w' := w2.drew) (Below.refl _ _).drew) p q _ _ _ rfl rfl (by omega) HP.out HQ.out).mono ?_
                 rintro e w3 ⟨rfl, fp3, h3, hs3⟩
                 have HM := Lib.hid ((HX.out.below (w' := w2.drew) (Below.refl _ _).drew).turn h3 hs3)
                 clear h3 hs3))
          clear HX HM c0 c1 c2
          go_wp2_with fail
          obtain ⟨AV, cv, rfl, cr⟩ := HX5.out.cell
          go_region_held3 (fun w' => w'.cell? ⟨r, 0, none⟩ = some (.slice AV (setS S (p, q) true).length cv)) (first | exact HY9.out.cell' | exact HY8.out.cell' | exact HY7.out.cell' | exact HY6.out.cell' | exact HY5.out.cell' | exact HY4.out.cell' | exact HY3.out.cell' | exact HY2.out.cell' | exact HY1.out.cell' | exact HY0.out.cell' | exact cr)
            (first
              | (go_at_call 18
                 refine (same_any _ _ _ _ _ _ _ HE8.out.1 HE7.out.2 HE8.out.2.1 HE8.out.2.2 (Nat.le_trans (othersS_len _ _ _) (by have := HY8.out.len; omega)) true (by simp [sameL])).mono ?_
                 rintro e y9 ⟨rfl, q9, rfl⟩
                 have HY9 := Lib.hid (HY8.out.below (w' := World.drewN y8 q9) (Below.drewN' (Below.refl _ _) _)))
              | (go_at_call 20
                 refine (rf_watchers HY7.out.rf (by have := HY7.out.len; omega) p).mono ?_
                 rintro e y8 ⟨A8, k8, rfl, hc, hE, _, hb⟩
                 have HY8 := Lib.hid (HY7.out.below hb)
                 have HE8 := Lib.hid (⟨C_keep HE7.out.1 hb, hE, hc⟩ : _ ∧ _ ∧ _)
                 clear hc hE hb)
              | (go_at_call 19
                 refine (lv_watchers HY6.out.lv p _ rfl (by omega) HP.out).mono ?_
                 rintro e y7 ⟨A7, k7, rfl, hc, hE, _, hb⟩
                 have HY7 := Lib.hid (HY6.out.below hb)
                 have HE7 := Lib.hid (⟨hE.reads, hc⟩ : _ ∧ _)
                 clear hc hE hb)
              | (go_at_call 18
                 refine (same_any _ _ _ _ _ _ _ HE5.out.1 HE4.out.2 HE5.out.2.1 HE5.out.2.2 (Nat.le_trans (othersS_len _ _ _) (by have := HY5.out.len; omega)) true (by simp [sameL])).mono ?_
                 rintro e y6 ⟨rfl, q6, rfl⟩
                 have HY6 := Lib.hid (HY5.out.below (w' := World.drewN y5 q6) (Below.drewN' (Below.refl _ _) _)))
              | (go_at_call 22
                 refine (rf_contacts HY4.out.rf (by have := HY4.out.len; omega) p).mono ?_
                 rintro e y5 ⟨A5, k5, rfl, hc, hE, _, hb⟩
                 have HY5 := Lib.hid (HY4.out.below hb)
                 have HE5 := Lib.hid (⟨C_keep HE4.out.1 hb, hE, hc⟩ : _ ∧ _ ∧ _)
                 clear hc hE hb)
              | (go_at_call 21
                 refine (lv_contacts HY3.out.lv p _ rfl (by omega) HP.out).mono ?_
                 rintro e y4 ⟨A4, k4, rfl, hc, hE, _, hb⟩
                 have HY4 := Lib.hid (HY3.out.below hb)
                 have HE4 := Lib.hid (⟨hE.reads, hc⟩ : _ ∧ _)
                 clear hc hE hb)
              | (go_at_call 18
                 refine (same_any _ _ _ _ _ _ _ HE2.out.1 HE1.out.2 HE2.out.2.1 HE2.out.2.2 (Nat.le_trans (othersS_len _ _ _) (by have := HY2.out.len; omega)) true (by simp [sameL])).mono ?_
                 rintro e y3 ⟨rfl, q3, rfl⟩
                 have HY3 := Lib.hid (HY2.out.below (w' := World.drewN y2 q3) (Below.drewN' (Below.refl _ _) _)))
              | (go_at_call 20
                 refine (rf_watchers HY1.out.rf (by have := HY1.out.len; omega) q).mono ?_
                 rintro e y2 ⟨A2, k2, rfl, hc, hE, _, hb⟩
                 have HY2 := Lib.hid (HY1.out.below hb)
                 have HE2 := Lib.hid (⟨C_keep HE1.out.1 hb, hE, hc⟩ : _ ∧ _ ∧ _)
                 clear hc hE hb)
              | (go_at_call 19
                 refine (lv_watchers HY0.out.lv q _ rfl (by omega) HQ.out).mono ?_
                 rintro e y1 ⟨A1, k1, rfl, hc, hE, _, hb⟩
                 have HY1 := Lib.hid (HY0.out.below hb)
                 have HE1 := Lib.hid (⟨hE.reads, hc⟩ : _ ∧ _)
                 clear hc hE hb)
              | (go_at_call 17
                 refine (lv_len (HX5.out.lv.below (w' := w5.drew) (Below.refl _ _).drew) _ rfl).mono ?_
                 rintro e y0 ⟨rfl, rfl⟩
                 have HY0 := Lib.hid (HX5.out.below (w' := w5.drew) (Below.refl _ _).drew)))
          go_wp2_with fail
          go_roundw
          case rel => exact ⟨k + 1, _, _, _, by omega, by go_num, HY9.out.mono (by omega)⟩
          case measure => simp [intOf]; omega
        · by_cases d1 : d = 1
          · subst d1
            go_wp2_with fail
            go_region_held3 (fun w' => w'.cell? (ad.add (k * 3)) = some (.int .i64 1)) (first | exact c0 | exact (HI.out _ HX5.out.lv.b).1 | exact (HI.out _ HM.out.lv.b).1)
              (first
                | (go_at_call 12
                   refine (rf_set HM.out.rf (by have := HX.out.len; omega) p q _).mono ?_
                   rintro e w5 ⟨rfl, v5, h5, hs5⟩
                   have HX5 := Lib.hid (HM.out.turn h5 hs5)
                   clear h5 hs5)
                | (go_at_call 11
                   refine (lv_set (HX.out.lv.below (w' := w2.drew) (Below.refl _ _).drew) p q _ _ _ rfl rfl (by omega) HP.out HQ.out).mono ?_
                   rintro e w3 ⟨rfl, fp3, h3, hs3⟩
                   have HM := Lib.hid ((HX.out.below (w' := w2.drew) (Below.refl _ _).drew).turn h3 hs3)
                   clear h3 hs3))
            clear HX HM c0 c1 c2
            go_wp2_with fail
            obtain ⟨AV, cv, rfl, cr⟩ := HX5.out.cell
            go_region_held3 (fun w' => w'.cell? ⟨r, 0, none⟩ = some (.slice AV (setS S (p, q) false).length cv)) (first | exact HY9.out.cell' | exact HY8.out.cell' | exact HY7.out.cell' | exact HY6.out.cell' | exact HY5.out.cell' | exact HY4.out.cell' | exact HY3.out.cell' | exact HY2.out.cell' | exact HY1.out.cell' | exact HY0.out.cell' | exact cr)
              (first
                | (go_at_call 18
                   refine (same_any _ _ _ _ _ _ _ HE8.out.1 HE7.out.2 HE8.out.2.1 HE8.out.2.2 (Nat.le_trans (othersS_len _ _ _) (by have := HY8.out.len; omega)) true (by simp [sameL])).mono ?_
                   rintro e y9 ⟨rfl, q9, rfl⟩
                   have HY9 := Lib.hid (HY8.out.below (w' := World.drewN y8 q9) (Below.drewN' (Below.refl _ _) _)))
                | (go_at_call 20
                   refine (rf_watchers HY7.out.rf (by have := HY7.out.len; omega) p).mono ?_
                   rintro e y8 ⟨A8, k8, rfl, hc, hE, _, hb⟩
                   have HY8 := Lib.hid (HY7.out.below hb)
                   have HE8 := Lib.hid (⟨C_keep HE7.out.1 hb, hE, hc⟩ : _ ∧ _ ∧ _)
                   clear hc hE hb)
                | (go_at_call 19
                   refine (lv_watchers HY6.out.lv p _ rfl (by omega) HP.out).mono ?_
                   rintro e y7 ⟨A7, k7, rfl, hc, hE, _, hb⟩
                   have HY7 := Lib.hid (HY6.out.below hb)
                   have HE7 := Lib.hid (⟨hE.reads, hc⟩ : _ ∧ _)
                   clear hc hE hb)
                | (go_at_call 18
                   refine (same_any _ _ _ _ _ _ _ HE5.out.1 HE4.out.2 HE5.out.2.1 HE5.out.2.2 (Nat.le_trans (othersS_len _ _ _) (by have := HY5.out.len; omega)) true (by simp [sameL])).mono ?_
                   rintro e y6 ⟨rfl, q6, rfl⟩
                   have HY6 := Lib.hid (HY5.out.below (w' := World.drewN y5 q6) (Below.drewN' (Below.refl _ _) _)))
                | (go_at_call 22
                   refine (rf_contacts HY4.out.rf (by have := HY4.out.len; omega) p).mono ?_
                   rintro e y5 ⟨A5, k5, rfl, hc, hE, _, hb⟩
                   have HY5 := Lib.hid (HY4.out.below hb)
                   have HE5 := Lib.hid (⟨C_keep HE4.out.1 hb, hE, hc⟩ : _ ∧ _ ∧ _)
                   clear hc hE hb)
                | (go_at_call 21
                   refine (lv_contacts HY3.out.lv p _ rfl (by omega) HP.out).mono ?_
                   rintro e y4 ⟨A4, k4, rfl, hc, hE, _, hb⟩
                   have HY4 := Lib.hid (HY3.out.below hb)
                   have HE4 := Lib.hid (⟨hE.reads, hc⟩ : _ ∧ _)
                   clear hc hE hb)
                | (go_at_call 18
                   refine (same_any _ _ _ _ _ _ _ HE2.out.1 HE1.out.2 HE2.out.2.1 HE2.out.2.2 (Nat.le_trans (othersS_len _ _ _) (by have := HY2.out.len; omega)) true (by simp [sameL])).mono ?_
                   rintro e y3 ⟨rfl, q3, rfl⟩
                   have HY3 := Lib.hid (HY2.out.below (w' := World.drewN y2 q3) (Below.drewN' (Below.refl _ _) _)))
                | (go_at_call 20
                   refine (rf_watchers HY1.out.rf (by have := HY1.out.len; omega) q).mono ?_
                   rintro e y2 ⟨A2, k2, rfl, hc, hE, _, hb⟩
                   have HY2 := Lib.hid (HY1.out.below hb)
                   have HE2 := Lib.hid (⟨C_keep HE1.out.1 hb, hE, hc⟩ : _ ∧ _ ∧ _)
                   clear hc hE hb)
                | (go_at_call 19
                   refine (lv_watchers HY0.out.lv q _ rfl (by omega) HQ.out).mono ?_
                   rintro e y1 ⟨A1, k1, rfl, hc, hE, _, hb⟩
                   have HY1 := Lib.hid (HY0.out.below hb)
                   have HE1 := Lib.hid (⟨hE.reads, hc⟩ : _ ∧ _)
                   clear hc hE hb)
                | (go_at_call 17
                   refine (lv_len (HX5.out.lv.below (w' := w5.drew) (Below.refl _ _).drew) _ rfl).mono ?_
                   rintro e y0 ⟨rfl, rfl⟩
                   have HY0 := Lib.hid (HX5.out.below (w' := w5.drew) (Below.refl _ _).drew)))
            go_wp2_with fail
            go_roundw
            case rel => exact ⟨k + 1, _, _, _, by omega, by go_num, HY9.out.mono (by omega)⟩
            case measure => simp [intOf]; omega
          · by_cases d2 : d = 2
            · subst d2
              go_wp2_with fail
              refine (lv_has HX.out.lv p q _ rfl HP.out HQ.out).mono ?_
              rintro e w3 ⟨rfl, rfl⟩
              go_wp2_with fail
              refine (rf_has HX.out.rf (by have := HX.out.len; omega) p q).mono ?_
              rintro e w3 ⟨rfl, rfl⟩
              have HX5 := Lib.hid (HX.out.mono (show 2 * k ≤ 2 * k + 2 by omega))
              clear HX c0 c1 c2
              go_wp2_with fail
              obtain ⟨AV, cv, rfl, cr⟩ := HX5.out.cell
              go_region_held3 (fun w' => w'.cell? ⟨r, 0, none⟩ = some (.slice AV S.length cv)) (first | exact HY9.out.cell' | exact HY8.out.cell' | exact HY7.out.cell' | exact HY6.out.cell' | exact HY5.out.cell' | exact HY4.out.cell' | exact HY3.out.cell' | exact HY2.out.cell' | exact HY1.out.cell' | exact HY0.out.cell' | exact cr)
                (first
                  | (go_at_call 18
                     refine (same_any _ _ _ _ _ _ _ HE8.out.1 HE7.out.2 HE8.out.2.1 HE8.out.2.2 (Nat.le_trans (othersS_len _ _ _) (by have := HY8.out.len; omega)) true (by simp [sameL])).mono ?_
                     rintro e y9 ⟨rfl, q9, rfl⟩
                     have HY9 := Lib.hid (HY8.out.below (w' := World.drewN y8 q9) (Below.drewN' (Below.refl _ _) _)))
                  | (go_at_call 20
                     refine (rf_watchers HY7.out.rf (by have := HY7.out.len; omega) p).mono ?_
                     rintro e y8 ⟨A8, k8, rfl, hc, hE, _, hb⟩
                     have HY8 := Lib.hid (HY7.out.below hb)
                     have HE8 := Lib.hid (⟨C_keep HE7.out.1 hb, hE, hc⟩ : _ ∧ _ ∧ _)
                     clear hc hE hb)
                  | (go_at_call 19
                     refine (lv_watchers HY6.out.lv p _ rfl (by omega) HP.out).mono ?_
                     rintro e y7 ⟨A7, k7, rfl, hc, hE, _, hb⟩
                     have HY7 := Lib.hid (HY6.out.below hb)
                     have HE7 := Lib.hid (⟨hE.reads, hc⟩ : _ ∧ _)
                     clear hc hE hb)
                  | (go_at_call 18
                     refine (same_any _ _ _ _ _ _ _ HE5.out.1 HE4.out.2 HE5.out.2.1 HE5.out.2.2 (Nat.le_trans (othersS_len _ _ _) (by have := HY5.out.len; omega)) true (by simp [sameL])).mono ?_
                     rintro e y6 ⟨rfl, q6, rfl⟩
                     have HY6 := Lib.hid (HY5.out.below (w' := World.drewN y5 q6) (Below.drewN' (Below.refl _ _) _)))
                  | (go_at_call 22
                     refine (rf_contacts HY4.out.rf (by have := HY4.out.len; omega) p).mono ?_
                     rintro e y5 ⟨A5, k5, rfl, hc, hE, _, hb⟩
                     have HY5 := Lib.hid (HY4.out.below hb)
                     have HE5 := Lib.hid (⟨C_keep HE4.out.1 hb, hE, hc⟩ : _ ∧ _ ∧ _)
                     clear hc hE hb)
                  | (go_at_call 21
                     refine (lv_contacts HY3.out.lv p _ rfl (by omega) HP.out).mono ?_
                     rintro e y4 ⟨A4, k4, rfl, hc, hE, _, hb⟩
                     have HY4 := Lib.hid (HY3.out.below hb)
                     have HE4 := Lib.hid (⟨hE.reads, hc⟩ : _ ∧ _)
                     clear hc hE hb)
                  | (go_at_call 18
                     refine (same_any _ _ _ _ _ _ _ HE2.out.1 HE1.out.2 HE2.out.2.1 HE2.out.2.2 (Nat.le_trans (othersS_len _ _ _) (by have := HY2.out.len; omega)) true (by simp [sameL])).mono ?_
                     rintro e y3 ⟨rfl, q3, rfl⟩
                     have HY3 := Lib.hid (HY2.out.below (w' := World.drewN y2 q3) (Below.drewN' (Below.refl _ _) _)))
                  | (go_at_call 20
                     refine (rf_watchers HY1.out.rf (by have := HY1.out.len; omega) q).mono ?_
                     rintro e y2 ⟨A2, k2, rfl, hc, hE, _, hb⟩
                     have HY2 := Lib.hid (HY1.out.below hb)
                     have HE2 := Lib.hid (⟨C_keep HE1.out.1 hb, hE, hc⟩ : _ ∧ _ ∧ _)
                     clear hc hE hb)
                  | (go_at_call 19
                     refine (lv_watchers HY0.out.lv q _ rfl (by omega) HQ.out).mono ?_
                     rintro e y1 ⟨A1, k1, rfl, hc, hE, _, hb⟩
                     have HY1 := Lib.hid (HY0.out.below hb)
                     have HE1 := Lib.hid (⟨hE.reads, hc⟩ : _ ∧ _)
                     clear hc hE hb)
                  | (go_at_call 17
                     refine (lv_len (HX5.out.lv.below (w' := w2.drew) (Below.refl _ _).drew) _ rfl).mono ?_
                     rintro e y0 ⟨rfl, rfl⟩
                     have HY0 := Lib.hid (HX5.out.below (w' := w2.drew) (Below.refl _ _).drew)))
              go_wp2_with fail
              go_roundw
              case rel => exact ⟨k + 1, _, _, _, by omega, by go_num, HY9.out.mono (by omega)⟩
              case measure => simp [intOf]; omega
            · by_cases d3 : d = 3
              · subst d3
                go_wp2_with fail
                refine (lv_forget HX.out.lv p _ _ rfl rfl (by omega) HP.out).mono ?_
                rintro e w3 ⟨rfl, fp3, h3, hs3⟩
                have HM := Lib.hid (HX.out.turn h3 hs3)
                clear h3 hs3
                go_wp2_with fail
                refine (rf_forget HM.out.rf (by have := HX.out.len; omega) p).mono ?_
                rintro e w5 ⟨rfl, v5, h5, hs5⟩
                have HX5 := Lib.hid ((HM.out.turn h5 hs5).mono (show 2 * k ≤ 2 * k + 2 by omega))
                clear h5 hs5 HM HX c0 c1 c2
                go_wp2_with fail
                obtain ⟨AV, cv, rfl, cr⟩ := HX5.out.cell
                go_region_held3 (fun w' => w'.cell? ⟨r, 0, none⟩ = some (.slice AV (forgetS S p 2).length cv)) (first | exact HY9.out.cell' | exact HY8.out.cell' | exact HY7.out.cell' | exact HY6.out.cell' | exact HY5.out.cell' | exact HY4.out.cell' | exact HY3.out.cell' | exact HY2.out.cell' | exact HY1.out.cell' | exact HY0.out.cell' | exact cr)
                  (first
                    | (go_at_call 18
                       refine (same_any _ _ _ _ _ _ _ HE8.out.1 HE7.out.2 HE8.out.2.1 HE8.out.2.2 (Nat.le_trans (othersS_len _ _ _) (by have := HY8.out.len; omega)) true (by simp [sameL])).mono ?_
                       rintro e y9 ⟨rfl, q9, rfl⟩
                       have HY9 := Lib.hid (HY8.out.below (w' := World.drewN y8 q9) (Below.drewN' (Below.refl _ _) _)))
                    | (go_at_call 20
                       refine (rf_watchers HY7.out.rf (by have := HY7.out.len; omega) p).mono ?_
                       rintro e y8 ⟨A8, k8, rfl, hc, hE, _, hb⟩
                       have HY8 := Lib.hid (HY7.out.below hb)
                       have HE8 := Lib.hid (⟨C_keep HE7.out.1 hb, hE, hc⟩ : _ ∧ _ ∧ _)
                       clear hc hE hb)
                    | (go_at_call 19
                       refine (lv_watchers HY6.out.lv p _ rfl (by omega) HP.out).mono ?_
                       rintro e y7 ⟨A7, k7, rfl, hc, hE, _, hb⟩
                       have HY7 := Lib.hid (HY6.out.below hb)
                       have HE7 := Lib.hid (⟨hE.reads, hc⟩ : _ ∧ _)
                       clear hc hE hb)
                    | (go_at_call 18
                       refine (same_any _ _ _ _ _ _ _ HE5.out.1 HE4.out.2 HE5.out.2.1 HE5.out.2.2 (Nat.le_trans (othersS_len _ _ _) (by have := HY5.out.len; omega)) true (by simp [sameL])).mono ?_
                       rintro e y6 ⟨rfl, q6, rfl⟩
                       have HY6 := Lib.hid (HY5.out.below (w' := World.drewN y5 q6) (Below.drewN' (Below.refl _ _) _)))
                    | (go_at_call 22
                       refine (rf_contacts HY4.out.rf (by have := HY4.out.len; omega) p).mono ?_
                       rintro e y5 ⟨A5, k5, rfl, hc, hE, _, hb⟩
                       have HY5 := Lib.hid (HY4.out.below hb)
                       have HE5 := Lib.hid (⟨C_keep HE4.out.1 hb, hE, hc⟩ : _ ∧ _ ∧ _)
                       clear hc hE hb)
                    | (go_at_call 21
                       refine (lv_contacts HY3.out.lv p _ rfl (by omega) HP.out).mono ?_
                       rintro e y4 ⟨A4, k4, rfl, hc, hE, _, hb⟩
                       have HY4 := Lib.hid (HY3.out.below hb)
                       have HE4 := Lib.hid (⟨hE.reads, hc⟩ : _ ∧ _)
                       clear hc hE hb)
                    | (go_at_call 18
                       refine (same_any _ _ _ _ _ _ _ HE2.out.1 HE1.out.2 HE2.out.2.1 HE2.out.2.2 (Nat.le_trans (othersS_len _ _ _) (by have := HY2.out.len; omega)) true (by simp [sameL])).mono ?_
                       rintro e y3 ⟨rfl, q3, rfl⟩
                       have HY3 := Lib.hid (HY2.out.below (w' := World.drewN y2 q3) (Below.drewN' (Below.refl _ _) _)))
                    | (go_at_call 20
                       refine (rf_watchers HY1.out.rf (by have := HY1.out.len; omega) q).mono ?_
                       rintro e y2 ⟨A2, k2, rfl, hc, hE, _, hb⟩
                       have HY2 := Lib.hid (HY1.out.below hb)
                       have HE2 := Lib.hid (⟨C_keep HE1.out.1 hb, hE, hc⟩ : _ ∧ _ ∧ _)
                       clear hc hE hb)
                    | (go_at_call 19
                       refine (lv_watchers HY0.out.lv q _ rfl (by omega) HQ.out).mono ?_
                       rintro e y1 ⟨A1, k1, rfl, hc, hE, _, hb⟩
                       have HY1 := Lib.hid (HY0.out.below hb)
                       have HE1 := Lib.hid (⟨hE.reads, hc⟩ : _ ∧ _)
                       clear hc hE hb)
                    | (go_at_call 17
                       refine (lv_len (HX5.out.lv.below (w' := w5.drew) (Below.refl _ _).drew) _ rfl).mono ?_
                       rintro e y0 ⟨rfl, rfl⟩
                       have HY0 := Lib.hid (HX5.out.below (w' := w5.drew) (Below.refl _ _).drew)))
                go_wp2_with fail
                go_roundw
                case rel => exact ⟨k + 1, _, _, _, by omega, by go_num, HY9.out.mono (by omega)⟩
                case measure => simp [intOf]; omega
              · go_wp2_with fail
                have HX5 := Lib.hid (HX.out.mono (show 2 * k ≤ 2 * k + 2 by omega))
                clear HX c0 c1 c2
                obtain ⟨AV, cv, rfl, cr⟩ := HX5.out.cell
                go_region_held3 (fun w' => w'.cell? ⟨r, 0, none⟩ = some (.slice AV S.length cv)) (first | exact HY9.out.cell' | exact HY8.out.cell' | exact HY7.out.cell' | exact HY6.out.cell' | exact HY5.out.cell' | exact HY4.out.cell' | exact HY3.out.cell' | exact HY2.out.cell' | exact HY1.out.cell' | exact HY0.out.cell' | exact cr)
                  (first
                    | (go_at_call 18
                       refine (same_any _ _ _ _ _ _ _ HE8.out.1 HE7.out.2 HE8.out.2.1 HE8.out.2.2 (Nat.le_trans (othersS_len _ _ _) (by have := HY8.out.len; omega)) true (by simp [sameL])).mono ?_
                       rintro e y9 ⟨rfl, q9, rfl⟩
                       have HY9 := Lib.hid (HY8.out.below (w' := World.drewN y8 q9) (Below.drewN' (Below.refl _ _) _)))
                    | (go_at_call 20
                       refine (rf_watchers HY7.out.rf (by have := HY7.out.len; omega) p).mono ?_
                       rintro e y8 ⟨A8, k8, rfl, hc, hE, _, hb⟩
                       have HY8 := Lib.hid (HY7.out.below hb)
                       have HE8 := Lib.hid (⟨C_keep HE7.out.1 hb, hE, hc⟩ : _ ∧ _ ∧ _)
                       clear hc hE hb)
                    | (go_at_call 19
                       refine (lv_watchers HY6.out.lv p _ rfl (by omega) HP.out).mono ?_
                       rintro e y7 ⟨A7, k7, rfl, hc, hE, _, hb⟩
                       have HY7 := Lib.hid (HY6.out.below hb)
                       have HE7 := Lib.hid (⟨hE.reads, hc⟩ : _ ∧ _)
                       clear hc hE hb)
                    | (go_at_call 18
                       refine (same_any _ _ _ _ _ _ _ HE5.out.1 HE4.out.2 HE5.out.2.1 HE5.out.2.2 (Nat.le_trans (othersS_len _ _ _) (by have := HY5.out.len; omega)) true (by simp [sameL])).mono ?_
                       rintro e y6 ⟨rfl, q6, rfl⟩
                       have HY6 := Lib.hid (HY5.out.below (w' := World.drewN y5 q6) (Below.drewN' (Below.refl _ _) _)))
                    | (go_at_call 22
                       refine (rf_contacts HY4.out.rf (by have := HY4.out.len; omega) p).mono ?_
                       rintro e y5 ⟨A5, k5, rfl, hc, hE, _, hb⟩
                       have HY5 := Lib.hid (HY4.out.below hb)
                       have HE5 := Lib.hid (⟨C_keep HE4.out.1 hb, hE, hc⟩ : _ ∧ _ ∧ _)
                       clear hc hE hb)
                    | (go_at_call 21
                       refine (lv_contacts HY3.out.lv p _ rfl (by omega) HP.out).mono ?_
                       rintro e y4 ⟨A4, k4, rfl, hc, hE, _, hb⟩
                       have HY4 := Lib.hid (HY3.out.below hb)
                       have HE4 := Lib.hid (⟨hE.reads, hc⟩ : _ ∧ _)
                       clear hc hE hb)
                    | (go_at_call 18
                       refine (same_any _ _ _ _ _ _ _ HE2.out.1 HE1.out.2 HE2.out.2.1 HE2.out.2.2 (Nat.le_trans (othersS_len _ _ _) (by have := HY2.out.len; omega)) true (by simp [sameL])).mono ?_
                       rintro e y3 ⟨rfl, q3, rfl⟩
                       have HY3 := Lib.hid (HY2.out.below (w' := World.drewN y2 q3) (Below.drewN' (Below.refl _ _) _)))
                    | (go_at_call 20
                       refine (rf_watchers HY1.out.rf (by have := HY1.out.len; omega) q).mono ?_
                       rintro e y2 ⟨A2, k2, rfl, hc, hE, _, hb⟩
                       have HY2 := Lib.hid (HY1.out.below hb)
                       have HE2 := Lib.hid (⟨C_keep HE1.out.1 hb, hE, hc⟩ : _ ∧ _ ∧ _)
                       clear hc hE hb)
                    | (go_at_call 19
                       refine (lv_watchers HY0.out.lv q _ rfl (by omega) HQ.out).mono ?_
                       rintro e y1 ⟨A1, k1, rfl, hc, hE, _, hb⟩
                       have HY1 := Lib.hid (HY0.out.below hb)
                       have HE1 := Lib.hid (⟨hE.reads, hc⟩ : _ ∧ _)
                       clear hc hE hb)
                    | (go_at_call 17
                       refine (lv_len (HX5.out.lv.below (w' := w2.drew) (Below.refl _ _).drew) _ rfl).mono ?_
                       rintro e y0 ⟨rfl, rfl⟩
                       have HY0 := Lib.hid (HX5.out.below (w' := w2.drew) (Below.refl _ _).drew)))
                go_wp2_with fail
                go_roundw
                case rel => exact ⟨k + 1, _, _, _, by omega, by go_num, HY9.out.mono (by omega)⟩
                case measure => simp [intOf]; omega
      · have he : k = l.length := by omega
        subst he
        go_wp2_with fail
        refine (live_any _).mono ?_
        rintro e w1 ⟨rfl, hb⟩
        have HB2 := Lib.hid (HRh.out.lv.b.trans (hb.mono HRh.out.lv.b.size))
        clear hb
        go_wp2_with fail
        go_ret
        exact ⟨rfl, HB2.out⟩
end Go.Proofs.Ytnpkjkhlbdkclaa
