/- IndexTurned: the walk of the law. Condition: the list of calls lies in memory. -/
import Derived.Test.YtnpkjkhlbdkclaaOpsFew
import Derived.Deep.RegionHeld3
import Derived.StillTailTactics
set_option linter.unusedSimpArgs false
set_option linter.unusedVariables false
namespace Go.Proofs.Ytnpkjkhlbdkclaa
open Go.RowKit Go.Maps Go.MapKept Go.Proofs.YtnpkjkhlbdkclaaW.PrintWords Go.Proofs.Ytnpkjkhlbdkclaa.PIndexScripts

/-- A pair turned about. -/
def swp (p : Pr) : Pr := (p.2, p.1)
theorem swp_inj {p q : Pr} (h : swp p = swp q) : p = q := by
  obtain ⟨a, b⟩ := p
  obtain ⟨c, d⟩ := q
  injection h with h1 h2
  simp only at h1 h2
  rw [h1, h2]
theorem hasP_swp (S : List Pr) (p : Pr) : hasP (S.map swp) (swp p) = hasP S p := by
  rw [Bool.eq_iff_iff, hasP_iff, hasP_iff, List.mem_map]
  exact ⟨fun ⟨q, hq, e⟩ => swp_inj e ▸ hq, fun h => ⟨p, h, rfl⟩⟩
theorem setS_swp (S : List Pr) (p : Pr) (on : Bool) : setS (S.map swp) (swp p) on = (setS S p on).map swp := by
  unfold setS
  rw [hasP_swp]
  cases on
  · simp only [Bool.false_eq_true, if_false, List.filter_map]
    congr 2
    funext q
    simp only [Function.comp]
    by_cases e : q = p
    · simp [e]
    · simp [e, show ¬ swp q = swp p from fun h => e (swp_inj h)]
  · simp only [if_true]
    split
    · rfl
    · rw [List.map_append]; rfl
theorem forgetS_swp (S : List Pr) (u : ByteArray) : forgetS (S.map swp) u 2 = (forgetS S u 2).map swp := by
  unfold forgetS
  rw [List.filter_map]
  congr 2
  funext q
  simp only [Function.comp, swp]
  rw [Bool.eq_iff_iff]
  simp [and_comm]
theorem others_swp (S : List Pr) (u : ByteArray) (s : Nat) (hs : s < 2) : othersS (S.map swp) (1 - s) u = othersS S s u := by
  unfold othersS
  apply mergeN_ext
  intro y
  simp only [List.mem_map, List.mem_filter]
  have hside : ∀ (p : Pr) (t : Nat), t < 2 → sideName (1 - t) (swp p) = sideName t p := fun p t ht => by
    rcases (show t = 0 ∨ t = 1 by omega) with rfl | rfl <;> rfl
  have h1s : 1 - (1 - s) = s := by omega
  constructor
  · rintro ⟨p, ⟨⟨q, hq, rfl⟩, hd⟩, rfl⟩
    refine ⟨q, ⟨hq, ?_⟩, ?_⟩
    · rw [← hside q s hs]; exact hd
    · have := hside q (1 - s) (by omega)
      rw [this]
  · rintro ⟨q, ⟨hq, hd⟩, rfl⟩
    refine ⟨swp q, ⟨⟨q, hq, rfl⟩, ?_⟩, ?_⟩
    · rw [hside q s hs]; exact hd
    · exact hside q (1 - s) (by omega)

/-- What the loop knows ahead of round k: two Indexes, one turned about, apart in memory. -/
structure TwoAt (w wr : World) (x y : Nat) (k : Nat) (S : List Pr) (fp fq : List Nat) : Prop where
  x : Lv w wr x S (2 * k) fp
  y : Lv w wr y (S.map swp) (2 * k) fq
  apart : ∀ i ∈ fp, i ∉ fq

/-- One of two was turned, then the other one. -/
theorem two_step {w w2 w3 w4 : World} {x y : Nat} {S T S' T' : List Pr} {fp fq fp' fq' : List Nat} {n m n' m' : Nat} (hx : Lv w w2 x S n fp) (hy : Lv w w2 y T m fq) (hd : ∀ i ∈ fp, i ∉ fq)
    (hx3 : Lv w w3 x S' n' fp') (hs : Step w2 w3 fp fp') (h : Lv w w3 y T m fq → (∀ i ∈ fq, i ∉ fp') → Lv w w4 y T' m' fq' ∧ Step w3 w4 fq fq') :
    Lv w w4 x S' n' fp' ∧ Lv w w4 y T' m' fq' ∧ ∀ i ∈ fp', i ∉ fq' := by
  have h1 := hy.other hs hx.own (fun i hi hm => hd i hm hi)
  obtain ⟨h2, h3⟩ := h h1.1 h1.2
  have h4 := hx3.other h3 h1.1.own (fun i hi hm => h1.2 i hm hi)
  exact ⟨h4.1, h2, h4.2⟩

set_option maxHeartbeats 4000000 in
set_option maxRecDepth 100000 in
theorem turned_law (A : Option Addr) (cap : Nat) (l : List Opn) (w : World) (hC : Kd.C kOpn w A l.length l) (hcap : l.length ≤ cap) :
    Calls Try.prog 7 #[.slice A l.length cap] w fun e w' => e = .returned (.bool true) ∧ Below w.heap.size w w' := by
  have HC := Lib.hid hC
  clear hC
  cases hf : fewB l with
  | false =>
    go_enter Try.func7, Try.ntmps7
    go_wp2_with fail
    refine (few_any A cap l w HC.out hcap false hf).mono ?_
    rintro e w0 ⟨rfl, hb⟩
    have HB := Lib.hid hb
    clear hb
    go_wp2_with fail
    refine (live_any _).mono ?_
    rintro e w1 ⟨rfl, hb⟩
    have HB2 := Lib.hid (HB.out.trans (hb.mono HB.out.size))
    clear hb
    go_wp2_with fail
    go_ret
    exact ⟨rfl, HB2.out⟩
  | true =>
    have HF := Lib.hid (fewB_iff hf)
    have hlen : l.length ≤ 80 := HF.out.1
    go_enter Try.func7, Try.ntmps7
    go_wp2_with fail
    refine (few_any A cap l w HC.out hcap true hf).mono ?_
    rintro e w0 ⟨rfl, hb⟩
    have HB := Lib.hid hb
    clear hb
    go_wp2_with fail
    refine (lv_new HB.out).mono ?_
    rintro e w1 ⟨x, fp0, rfl, h0, _, _⟩
    have H0 := Lib.hid h0
    clear h0 HB hf
    go_wp2_with fail
    refine (lv_new H0.out.b).mono ?_
    rintro e w2 ⟨y, fq0, rfl, h1, hb, hd⟩
    have H1 := Lib.hid (show TwoAt w w2 x y 0 [] fp0 fq0 from ⟨H0.out.below hb, h1, fun i hi hm => by have := H0.out.ix.lt i hi; have := hd i hm; omega⟩)
    clear h1 hb hd H0
    go_wp2_with fail
    go_loopw [5] (fun i wr => ∃ (k : Nat) (S : List Pr) (fp fq : List Nat), k ≤ l.length ∧ i = .int .i64 k ∧ TwoAt w wr x y k S fp fq) (fun i _ => l.length - (intOf i).toNat)
    case atStart => exact ⟨0, [], fp0, fq0, by omega, rfl, H1.out⟩
    case round =>
      clear H1
      obtain ⟨k, S, fp, fq, hk, rfl, HR⟩ := hrel
      have HRh := Lib.hid HR
      clear HR
      by_cases hlt : k < l.length
      · have hlt' : (k : Int) < (l.length : Int) := by omega
        have hlt0 : (0 : Int) ≤ k := by omega
        obtain ⟨ad, rfl, z0, z1, z2⟩ := op_at HC.out HRh.out.x.b k hlt
        clear z0 z1 z2
        have hsz := HF.out.2 k hlt
        have HO := Lib.hid (show l[k] = l[k] from rfl)
        obtain ⟨o, ho⟩ : ∃ o : Opn, l[k] = o := ⟨_, rfl⟩
        rw [ho] at hsz
        obtain ⟨d, p, q⟩ := o
        have HI := Lib.hid (show ∀ (w1 : World) (hb : Below w.heap.size w w1), w1.cell? (ad.add (k * 3)) = some (.int .i64 d) ∧ w1.cell? ⟨(ad.add (k * 3)).block, (ad.add (k * 3)).off + 1, none⟩ = some (.string p) ∧ w1.cell? ⟨(ad.add (k * 3)).block, (ad.add (k * 3)).off + 2, none⟩ = some (.string q) from fun w1 hb => op_in HC.out hb k hlt ho)
        simp only at hsz
        have HP := Lib.hid (sz_of hsz.1)
        have HQ := Lib.hid (sz_of hsz.2)
        clear hsz ho HO
        obtain ⟨c0, c1, c2⟩ := HI.out _ HRh.out.x.b
        go_wp2_with fail
        go_quiet (fail)
        have HX := Lib.hid (HRh.out.x.below (w' := wr.drewN nq) (Below.drewN' (Below.refl _ _) _))
        have HY := Lib.hid (HRh.out.y.below (w' := wr.drewN nq) (Below.drewN' (Below.refl _ _) _))
        have HD := Lib.hid HRh.out.apart
        clear HRh c0 c1 c2
        generalize wr.drewN nq = w2 at *
        obtain ⟨c0, c1, c2⟩ := HI.out _ HX.out.b
        by_cases d3 : d = 3
        · subst d3
          go_wp2_with fail
          refine (lv_forget HX.out p _ _ rfl rfl (by omega) HP.out).mono ?_
          rintro e w3 ⟨rfl, fp3, h3, hs3⟩
          have hy3 := HY.out.other hs3 HX.out.own (fun i hi hm => HD.out i hm hi)
          have HX3 := Lib.hid h3
          have HS3 := Lib.hid hs3
          have HY3 := Lib.hid hy3
          clear h3 hs3 hy3
          go_wp2_with fail
          refine (lv_forget HY3.out.1 p _ _ (forgetS_swp S p) (by rw [List.length_map, List.length_map]) (by omega) HP.out).mono ?_
          rintro e w5 ⟨rfl, fp5, h5, hs5⟩
          have h4 := HX3.out.other hs5 HY3.out.1.own (fun i hi hm => HY3.out.2 i hm hi)
          have HX5 := Lib.hid h4.1
          have HY5 := Lib.hid h5
          have HD5 := Lib.hid h4.2
          clear h4 h5 hs5 HX3 HS3 HY3
          go_wp2_with fail
          clear HX HY HD c0 c1 c2
          refine (lv_len HX5.out _ rfl).mono ?_
          rintro e w6 ⟨rfl, rfl⟩
          go_wp2_with fail
          refine (lv_len HY5.out _ (by rw [List.length_map])).mono ?_
          rintro e w6 ⟨rfl, rfl⟩
          go_wp2_with fail
          refine (lv_has HX5.out p q _ rfl HP.out HQ.out).mono ?_
          rintro e w6 ⟨rfl, rfl⟩
          go_wp2_with fail
          refine (lv_has HY5.out q p _ (hasP_swp _ (p, q)) HQ.out HP.out).mono ?_
          rintro e w6 ⟨rfl, rfl⟩
          go_wp2_with fail
          refine (lv_watchers HX5.out q _ rfl (by omega) HQ.out).mono ?_
          rintro e w6 ⟨A1, k1, rfl, hc1, hE1, _, hb⟩
          have HX6 := Lib.hid (HX5.out.below hb)
          have HY6 := Lib.hid (HY5.out.below hb)
          have HE1 := Lib.hid hE1
          have HL1 := Lib.hid hc1
          clear hc1 hE1 hb HX5 HY5
          go_wp2_with fail
          refine (lv_contacts HY6.out q _ (others_swp _ q 1 (by omega)) (by omega) HQ.out).mono ?_
          rintro e w7 ⟨A2, k2, rfl, hc2, hE2, _, hb⟩
          have HX7 := Lib.hid (HX6.out.below hb)
          have HY7 := Lib.hid (HY6.out.below hb)
          have HE1' := Lib.hid (HE1.out.step (Step.below hb _))
          have HE2 := Lib.hid hE2
          have HL2 := Lib.hid hc2
          clear hc2 hE2 hb HX6 HY6 HE1
          go_wp2_with fail
          refine (same_any _ _ _ _ _ _ _ HE1'.out.reads HL1.out HE2.out.reads HL2.out (Nat.le_trans (othersS_len _ _ _) (by have := HX7.out.ix.len; omega)) true (by simp [sameL])).mono ?_
          rintro e w8 ⟨rfl, q8, rfl⟩
          have HX8 := Lib.hid (HX7.out.below (w' := w7.drewN q8) (Below.drewN' (Below.refl _ _) _))
          have HY8 := Lib.hid (HY7.out.below (w' := w7.drewN q8) (Below.drewN' (Below.refl _ _) _))
          clear HX7 HY7 HE1' HE2 HL1 HL2
          go_wp2_with fail
          generalize w7.drewN q8 = w8 at *
          refine (lv_contacts HX8.out p _ rfl (by omega) HP.out).mono ?_
          rintro e w9 ⟨A1, k1, rfl, hc1, hE1, _, hb⟩
          have HX9 := Lib.hid (HX8.out.below hb)
          have HY9 := Lib.hid (HY8.out.below hb)
          have HE1 := Lib.hid hE1
          have HL1 := Lib.hid hc1
          clear hc1 hE1 hb HX8 HY8
          go_wp2_with fail
          refine (lv_watchers HY9.out p _ (others_swp _ p 0 (by omega)) (by omega) HP.out).mono ?_
          rintro e w10 ⟨A2, k2, rfl, hc2, hE2, _, hb⟩
          have HX10 := Lib.hid (HX9.out.below hb)
          have HY10 := Lib.hid (HY9.out.below hb)
          have HE1' := Lib.hid (HE1.out.step (Step.below hb _))
          have HE2 := Lib.hid hE2
          have HL2 := Lib.hid hc2
          clear hc2 hE2 hb HX9 HY9 HE1
          go_wp2_with fail
          refine (same_any _ _ _ _ _ _ _ HE1'.out.reads HL1.out HE2.out.reads HL2.out (Nat.le_trans (othersS_len _ _ _) (by have := HX10.out.ix.len; omega)) true (by simp [sameL])).mono ?_
          rintro e w11 ⟨rfl, q11, rfl⟩
          have HX11 := Lib.hid (HX10.out.below (w' := w10.drewN q11) (Below.drewN' (Below.refl _ _) _))
          have HY11 := Lib.hid (HY10.out.below (w' := w10.drewN q11) (Below.drewN' (Below.refl _ _) _))
          clear HX10 HY10 HE1' HE2 HL1 HL2
          go_wp2_with fail
          go_roundw
          case rel => exact ⟨k + 1, _, _, _, by omega, by go_num, ⟨HX11.out.mono (by omega), HY11.out.mono (by omega), HD5.out⟩⟩
          case measure => simp [intOf]; omega
        · go_wp2_with fail
          go_region_held3 (fun w' => w'.cell? (ad.add (k * 3)) = some (.int .i64 d)) (first | exact c0 | exact (HI.out _ HX3.out.b).1 | exact (HI.out _ HX5.out.b).1)
            (first
              | (go_at_call 11
                 refine (lv_set HY3.out.1 q p _ _ _ (setS_swp S (p, q) _) (by rw [show hasP (S.map swp) (q, p) = hasP S (p, q) from hasP_swp S (p, q)]) (by omega) HQ.out HP.out).mono ?_
                 rintro e w5 ⟨rfl, fp5, h5, hs5⟩
                 have h4 := HX3.out.other hs5 HY3.out.1.own (fun i hi hm => HY3.out.2 i hm hi)
                 have HX5 := Lib.hid h4.1
                 have HY5 := Lib.hid h5
                 have HD5 := Lib.hid h4.2
                 clear h4 h5 hs5 HX3 HY3)
              | (go_at_call 11
                 refine (lv_set (HX.out.below (w' := w2.drew) (Below.refl _ _).drew) p q _ _ _ rfl rfl (by omega) HP.out HQ.out).mono ?_
                 rintro e w3 ⟨rfl, fp3, h3, hs3⟩
                 have hy3 := (HY.out.below (w' := w2.drew) (Below.refl _ _).drew).other hs3 HX.out.own (fun i hi hm => HD.out i hm hi)
                 have HX3 := Lib.hid h3
                 have HY3 := Lib.hid hy3
                 clear h3 hs3 hy3))
          go_wp2_with fail
          clear HX HY HD c0 c1 c2
          refine (lv_len HX5.out _ rfl).mono ?_
          rintro e w6 ⟨rfl, rfl⟩
          go_wp2_with fail
          refine (lv_len HY5.out _ (by rw [List.length_map])).mono ?_
          rintro e w6 ⟨rfl, rfl⟩
          go_wp2_with fail
          refine (lv_has HX5.out p q _ rfl HP.out HQ.out).mono ?_
          rintro e w6 ⟨rfl, rfl⟩
          go_wp2_with fail
          refine (lv_has HY5.out q p _ (hasP_swp _ (p, q)) HQ.out HP.out).mono ?_
          rintro e w6 ⟨rfl, rfl⟩
          go_wp2_with fail
          refine (lv_watchers HX5.out q _ rfl (by omega) HQ.out).mono ?_
          rintro e w6 ⟨A1, k1, rfl, hc1, hE1, _, hb⟩
          have HX6 := Lib.hid (HX5.out.below hb)
          have HY6 := Lib.hid (HY5.out.below hb)
          have HE1 := Lib.hid hE1
          have HL1 := Lib.hid hc1
          clear hc1 hE1 hb HX5 HY5
          go_wp2_with fail
          refine (lv_contacts HY6.out q _ (others_swp _ q 1 (by omega)) (by omega) HQ.out).mono ?_
          rintro e w7 ⟨A2, k2, rfl, hc2, hE2, _, hb⟩
          have HX7 := Lib.hid (HX6.out.below hb)
          have HY7 := Lib.hid (HY6.out.below hb)
          have HE1' := Lib.hid (HE1.out.step (Step.below hb _))
          have HE2 := Lib.hid hE2
          have HL2 := Lib.hid hc2
          clear hc2 hE2 hb HX6 HY6 HE1
          go_wp2_with fail
          refine (same_any _ _ _ _ _ _ _ HE1'.out.reads HL1.out HE2.out.reads HL2.out (Nat.le_trans (othersS_len _ _ _) (by have := HX7.out.ix.len; omega)) true (by simp [sameL])).mono ?_
          rintro e w8 ⟨rfl, q8, rfl⟩
          have HX8 := Lib.hid (HX7.out.below (w' := w7.drewN q8) (Below.drewN' (Below.refl _ _) _))
          have HY8 := Lib.hid (HY7.out.below (w' := w7.drewN q8) (Below.drewN' (Below.refl _ _) _))
          clear HX7 HY7 HE1' HE2 HL1 HL2
          go_wp2_with fail
          generalize w7.drewN q8 = w8 at *
          refine (lv_contacts HX8.out p _ rfl (by omega) HP.out).mono ?_
          rintro e w9 ⟨A1, k1, rfl, hc1, hE1, _, hb⟩
          have HX9 := Lib.hid (HX8.out.below hb)
          have HY9 := Lib.hid (HY8.out.below hb)
          have HE1 := Lib.hid hE1
          have HL1 := Lib.hid hc1
          clear hc1 hE1 hb HX8 HY8
          go_wp2_with fail
          refine (lv_watchers HY9.out p _ (others_swp _ p 0 (by omega)) (by omega) HP.out).mono ?_
          rintro e w10 ⟨A2, k2, rfl, hc2, hE2, _, hb⟩
          have HX10 := Lib.hid (HX9.out.below hb)
          have HY10 := Lib.hid (HY9.out.below hb)
          have HE1' := Lib.hid (HE1.out.step (Step.below hb _))
          have HE2 := Lib.hid hE2
          have HL2 := Lib.hid hc2
          clear hc2 hE2 hb HX9 HY9 HE1
          go_wp2_with fail
          refine (same_any _ _ _ _ _ _ _ HE1'.out.reads HL1.out HE2.out.reads HL2.out (Nat.le_trans (othersS_len _ _ _) (by have := HX10.out.ix.len; omega)) true (by simp [sameL])).mono ?_
          rintro e w11 ⟨rfl, q11, rfl⟩
          have HX11 := Lib.hid (HX10.out.below (w' := w10.drewN q11) (Below.drewN' (Below.refl _ _) _))
          have HY11 := Lib.hid (HY10.out.below (w' := w10.drewN q11) (Below.drewN' (Below.refl _ _) _))
          clear HX10 HY10 HE1' HE2 HL1 HL2
          go_wp2_with fail
          go_roundw
          case rel => exact ⟨k + 1, _, _, _, by omega, by go_num, ⟨HX11.out.mono (by omega), HY11.out.mono (by omega), HD5.out⟩⟩
          case measure => simp [intOf]; omega
      · have he : k = l.length := by omega
        subst he
        go_wp2_with fail
        refine (live_any _).mono ?_
        rintro e w1 ⟨rfl, hb⟩
        have HB2 := Lib.hid (HRh.out.x.b.trans (hb.mono HRh.out.x.b.size))
        clear hb
        go_wp2_with fail
        go_ret
        exact ⟨rfl, HB2.out⟩
end Go.Proofs.Ytnpkjkhlbdkclaa
