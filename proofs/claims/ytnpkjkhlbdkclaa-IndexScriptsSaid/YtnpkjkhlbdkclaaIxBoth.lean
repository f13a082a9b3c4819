/- IndexBoth: the walk of the law. Condition: the list of calls lies in memory. -/
import Derived.Test.YtnpkjkhlbdkclaaIxBothLaw
import Derived.Deep.RegionHeld3
import Derived.StillTailTactics
import Derived.BigQuiet
set_option linter.unusedSimpArgs false
set_option linter.unusedVariables false
namespace Go.Proofs.Ytnpkjkhlbdkclaa
open Go.RowKit Go.Maps Go.MapKept Go.Proofs.YtnpkjkhlbdkclaaW.PrintWords Go.Proofs.Ytnpkjkhlbdkclaa.PIndexScripts

/-- What the first loop knows ahead of round k. -/
structure BothAt (w wr : World) (x : Nat) (l : List Opn) (k : Nat) (S : List Pr) (fp : List Nat) (v : Value) : Prop where
  lv : Lv w wr x S (2 * k) fp
  own : wr.ownsRow w.heap.size 9 1 v (namesOf (l.take k)).length ((namesOf (l.take k)).map Value.string)
  far : ∀ g, v.ownBlock = some g → g ∉ fp
  cov : ∀ p ∈ S, p.1 ∈ namesOf (l.take k) ∧ p.2 ∈ namesOf (l.take k)
/-- .. behind the turn of the Index, ahead of the append. -/
structure BothMid (w wr : World) (x : Nat) (l : List Opn) (k : Nat) (p q : ByteArray) (S : List Pr) (fp : List Nat) (v : Value) : Prop where
  lv : Lv w wr x S (2 * k + 2) fp
  own : wr.ownsRow w.heap.size 9 1 v (namesOf (l.take k)).length ((namesOf (l.take k)).map Value.string)
  far : ∀ g, v.ownBlock = some g → g ∉ fp
  cov : ∀ r ∈ S, r.1 ∈ namesOf (l.take k) ++ [p, q] ∧ r.2 ∈ namesOf (l.take k) ++ [p, q]

theorem BothAt.turn {w wr w1 w2 : World} {x : Nat} {l : List Opn} {k : Nat} {p q : ByteArray} {S S' : List Pr} {fp fp' : List Nat} {v : Value} (h : BothAt w wr x l k S fp v) (hb : Below wr.heap.size wr w1) (hl : Lv w w2 x S' (2 * k + 2) fp') (hs : Step w1 w2 fp fp')
    (hc : ∀ r ∈ S', r.1 ∈ namesOf (l.take k) ++ [p, q] ∧ r.2 ∈ namesOf (l.take k) ++ [p, q]) : BothMid w w2 x l k p q S' fp' v := by
  refine ⟨hl, own_move h.own (fun g hg => ?_), fun g hg hm => ?_, hc⟩
  · have hlt := own_lt h.own g hg
    rw [hs.mods.block g (Nat.lt_of_lt_of_le hlt hb.size) (h.far g hg), hb.block g hlt]
  · have hlt := own_lt h.own g hg
    have := hb.size
    exact (hs.own g hm).elim (h.far g hg) (fun h2 => by omega)
theorem BothMid.drew {w w2 : World} {x : Nat} {l : List Opn} {k : Nat} {p q : ByteArray} {S : List Pr} {fp : List Nat} {v : Value} (h : BothMid w w2 x l k p q S fp v) (o : Obj) : BothMid w (w2.drew.alloc o) x l k p q S fp v := by
  have hb : Below w2.heap.size w2 (w2.drew.alloc o) := (Below.refl _ _).drew.alloc (Nat.le_refl _) o
  exact ⟨h.lv.below hb, own_move h.own (fun g hg => hb.block g (own_lt h.own g hg)), h.far, h.cov⟩
theorem BothMid.next {w w2 w3 : World} {x : Nat} {l : List Opn} {k : Nat} {p q : ByteArray} {S : List Pr} {fp : List Nat} {v v' : Value} (h : BothMid w w2 x l k p q S fp v) (hn : namesOf (l.take (k + 1)) = namesOf (l.take k) ++ [p, q])
    (ho : w3.ownsRow w.heap.size 9 1 v' ((namesOf (l.take k)).length + 2) ((namesOf (l.take k)).map Value.string ++ [p, q].map Value.string)) (hg : w2.grownBy w3 v.ownBlock) (hv : v'.ownBlock = v.ownBlock ∨ v'.ownBlock = some w2.heap.size) :
    BothAt w w3 x l (k + 1) S fp v' := by
  have hs : Step w2 w3 (match v.ownBlock with | some g => [g] | none => []) [] := ⟨Mods.of_grown hg (fun g hg => by rw [hg]; exact .inl (by simp)), fun i hi => by cases hi⟩
  have hbase := fun g hg => own_base h.own g hg
  have hlv := (h.lv.other hs (fun i hi => by
    cases hob : v.ownBlock with
    | none => rw [hob] at hi; cases hi
    | some g => rw [hob] at hi; simp at hi; subst hi; exact hbase _ hob) (fun i hi hm => by
    cases hob : v.ownBlock with
    | none => rw [hob] at hm; cases hm
    | some g => rw [hob] at hm; simp at hm; subst hm; exact h.far _ hob hi)).1
  refine ⟨hlv.mono (by omega), ?_, fun g hg' hm => ?_, by rw [hn]; exact h.cov⟩
  · rw [hn, List.length_append, List.map_append]
    exact ho
  · rcases hv with e | e
    · exact h.far g (by rw [← e]; exact hg') hm
    · rw [hg'] at e
      cases e
      have := h.lv.ix.lt _ hm
      omega

theorem refMerge_any (A : Option Addr) (c : Nat) (l : List ByteArray) (w : World) (h : Kd.C Kd.string w A l.length l) (hc : l.length ≤ c) (hl : l.length ≤ 20000) :
    Calls Try.prog 23 #[.slice A l.length c, .slice none 0 0] w fun e w' => ∃ v, e = .returned v ∧ Kd.R Kd.string 9 w' w.heap.size (fun _ => True) v (mergeN l) ∧ Below w.heap.size w w' := by
  have := rollcallref03_Merge.calls 200000 A c l none 0 [] (mergeN (l ++ [])) w h hc (nil_C _) (Nat.le_refl _) (refMerge_eq l [] hl (by simp))
  rw [List.append_nil] at this
  exact this
theorem refLess_any (a b : ByteArray) (w : World) (r : Bool) (hr : ltN a b = r) : Calls Try.prog 24 #[.string a, .string b] w fun e w' => e = .returned (.bool r) ∧ ∃ q, w' = w.drewN q :=
  (rollcallref03_Less.calls a b r w (by rw [less_eq, hr])).mono fun e w' ⟨he, hw⟩ => ⟨he, hw.out⟩

/-- What the second loop knows ahead of round i. -/
structure SumAt (w wr : World) (x : Nat) (S : List Pr) (n0 : Nat) (fp : List Nat) (A : Option Addr) (N : List ByteArray) : Prop where
  lv : Lv w wr x S n0 fp
  ext : Ext wr fp A N
theorem SumAt.below {w wr w' : World} {x : Nat} {S : List Pr} {n0 : Nat} {fp : List Nat} {A : Option Addr} {N : List ByteArray} (h : SumAt w wr x S n0 fp A N) (hb : Below wr.heap.size wr w') : SumAt w w' x S n0 fp A N := ⟨h.lv.below hb, h.ext.step (Step.below hb _)⟩
theorem Ext.at_ {w : World} {fp : List Nat} {A : Option Addr} {l : List ByteArray} (h : Ext w fp A l) {i : Nat} (hi : i < l.length) : ∃ ad, A = some ad ∧ w.cell? (ad.add i) = some (.string l[i]) := by
  obtain ⟨ad, u, e, _, hu, hc⟩ := (Kd.str_reads h.reads).at_ hi
  rw [List.getElem?_map, List.getElem?_eq_getElem hi] at hu
  cases hu
  exact ⟨ad, e, hc⟩

theorem others_sz {S : List Pr} (h : ∀ p ∈ S, sz p.1 ∧ sz p.2) {s : Nat} {nm y : ByteArray} (hy : y ∈ othersS S s nm) : sz y := by
  unfold othersS at hy
  rw [mergeN_mem, List.mem_map] at hy
  obtain ⟨p, hp, rfl⟩ := hy
  have := h p (List.mem_filter.1 hp).1
  unfold sideName
  split
  · exact this.1
  · exact this.2
/-- .. and the inner loops: the watchers' list, and the contacts'. -/
structure InAt (w wr : World) (x : Nat) (S : List Pr) (n0 : Nat) (fp : List Nat) (A : Option Addr) (N : List ByteArray) (Aw : Option Addr) (Lw : List ByteArray) (Ac : Option Addr) (Lc : List ByteArray) : Prop where
  sum : SumAt w wr x S n0 fp A N
  ew : Ext wr fp Aw Lw
  ec : Ext wr fp Ac Lc
theorem InAt.below {w wr w' : World} {x : Nat} {S : List Pr} {n0 : Nat} {fp : List Nat} {A : Option Addr} {N : List ByteArray} {Aw : Option Addr} {Lw : List ByteArray} {Ac : Option Addr} {Lc : List ByteArray} (h : InAt w wr x S n0 fp A N Aw Lw Ac Lc) (hb : Below wr.heap.size wr w') :
    InAt w w' x S n0 fp A N Aw Lw Ac Lc := ⟨h.sum.below hb, h.ew.step (Step.below hb _), h.ec.step (Step.below hb _)⟩

set_option maxHeartbeats 4000000 in
set_option maxRecDepth 100000 in
theorem both_law (A : Option Addr) (cap : Nat) (l : List Opn) (w : World) (hC : Kd.C kOpn w A l.length l) (hcap : l.length ≤ cap) :
    Calls Try.prog 4 #[.slice A l.length cap] w fun e w' => e = .returned (.bool true) ∧ Below w.heap.size w w' := by
  have HC := Lib.hid hC
  clear hC
  cases hf : fewB l with
  | false =>
    go_enter Try.func4, Try.ntmps4
    go_wp2_with fail
    refine (few_any A cap l w HC.out hcap false hf).mono ?_
    rintro e w0 ⟨rfl, hb⟩
    have HB := Lib.hid hb
    clear hb
    go_wp2_with fail
    refine (live_any _).mono ?_
    rintro e w1 ⟨rfl, hb⟩
    have HB2 := Lib.hid (HB.out.trans (hb.mono HB.out.size))
    clear hb
    go_wp2_with fail
    go_ret
    exact ⟨rfl, HB2.out⟩
  | true =>
    have HF := Lib.hid (fewB_iff hf)
    have hlen : l.length ≤ 80 := HF.out.1
    obtain ⟨i0, hi, hzz, hsz, hbt⟩ := info_parts infoStr
    have HINF := Lib.hid (⟨hi, hzz, hsz, hbt⟩ : _ ∧ _ ∧ _ ∧ _)
    clear hi hzz hsz hbt
    go_enter Try.func4, Try.ntmps4
    go_wp2_with fail
    refine (few_any A cap l w HC.out hcap true hf).mono ?_
    rintro e w0 ⟨rfl, hb⟩
    have HB := Lib.hid hb
    clear hb
    go_wp2_with fail
    refine (lv_new HB.out).mono ?_
    rintro e w1 ⟨x, fp0, rfl, h0, _, _⟩
    have H1 := Lib.hid (show BothAt w w1 x l 0 [] fp0 (.slice none 0 0) from ⟨h0, ⟨rfl, .inl ⟨rfl, rfl⟩⟩, fun g hg => by simp [Value.ownBlock] at hg, fun p hp => by cases hp⟩)
    clear h0 HB hf
    go_wp2_with fail
    go_loopw [4, 5] (fun v i wr => ∃ (k : Nat) (S : List Pr) (fp : List Nat), k ≤ l.length ∧ i = .int .i64 k ∧ BothAt w wr x l k S fp v) (fun _ i _ => l.length - (intOf i).toNat)
    case atStart => exact ⟨0, [], fp0, by omega, rfl, H1.out⟩
    case round =>
      clear H1
      obtain ⟨k, S, fp, hk, rfl, HR⟩ := hrel
      have HRh := Lib.hid HR
      clear HR
      by_cases hlt : k < l.length
      · have hlt' : (k : Int) < (l.length : Int) := by omega
        have hlt0 : (0 : Int) ≤ k := by omega
        obtain ⟨ad, rfl, z0, z1, z2⟩ := op_at HC.out HRh.out.lv.b k hlt
        clear z0 z1 z2
        have hsz := HF.out.2 k hlt
        obtain ⟨o, ho⟩ : ∃ o : Opn, l[k] = o := ⟨_, rfl⟩
        have HNM := Lib.hid (namesOf_take hlt ho)
        rw [ho] at hsz
        obtain ⟨d, p, q⟩ := o
        have HI := Lib.hid (show ∀ (w1 : World) (hb : Below w.heap.size w w1), w1.cell? (ad.add (k * 3)) = some (.int .i64 d) ∧ w1.cell? ⟨(ad.add (k * 3)).block, (ad.add (k * 3)).off + 1, none⟩ = some (.string p) ∧ w1.cell? ⟨(ad.add (k * 3)).block, (ad.add (k * 3)).off + 2, none⟩ = some (.string q) from fun w1 hb => op_in HC.out hb k hlt ho)
        have HNL := Lib.hid (show (namesOf (l.take k)).length ≤ 160 from by rw [namesOf_len, List.length_take]; omega)
        simp only at hsz
        have HP := Lib.hid (sz_of hsz.1)
        have HQ := Lib.hid (sz_of hsz.2)
        clear hsz ho
        obtain ⟨c0, c1, c2⟩ := HI.out _ HRh.out.lv.b
        by_cases d3 : d = 3
        · subst d3
          go_wp2_with fail
          refine (lv_forget HRh.out.lv p _ _ rfl rfl (by omega) HP.out).mono ?_
          rintro e w3 ⟨rfl, fp3, h3, hs3⟩
          have HM := Lib.hid (HRh.out.turn (Below.refl _ _) (h3.mono (by omega)) hs3 (forget_cov HRh.out.cov p p q))
          clear h3 hs3 HRh c0 c1 c2
          obtain ⟨c0, c1, c2⟩ := HI.out _ HM.out.lv.b
          go_wp2_with fail
          have HMd := Lib.hid (HM.out.drew (.cells #[.string p, .string q] 9))
          have HRD := Lib.hid (Kd.str_reads (lit2 w3.drew p q 9))
          have hb1 : ∀ u ∈ [p, q].map Value.string, u.oneCell' = true := fun u hu => by simp at hu; rcases hu with rfl | rfl <;> rfl
          have hb2 : (namesOf (l.take k)).length + [p, q].length ≤ maxLen := by have := HNL.out; unfold maxLen; simp; omega
          have hb3 : ((namesOf (l.take k)).length + [p, q].length) * 16 ≤ 140737488355328 := by have := HNL.out; simp; omega
          have hb4 : w.heap.size ≤ (w3.drew.alloc (.cells #[.string p, .string q] 9)).heap.size := HMd.out.lv.b.size
          have HBS := Lib.hid (⟨hb1, hb2, hb3, hb4⟩ : _ ∧ _ ∧ _ ∧ _)
          clear hb1 hb2 hb3 hb4
          go_region_held3 (fun w' => w'.cell? ⟨(ad.add (k * 3)).block, (ad.add (k * 3)).off + 1, none⟩ = some (.string p) ∧ w'.cell? ⟨(ad.add (k * 3)).block, (ad.add (k * 3)).off + 2, none⟩ = some (.string q)) (first | exact ⟨c1, c2⟩ | exact (HI.out _ HX.out.lv.b).2 | exact (HI.out _ HMd.out.lv.b).2)
            (first
              | (refine step_append_any _ rfl (.tmp 57) (.tmp 68) 38 rfl w.heap.size 9 i0 _ 1 16 Try.underlying38 HINF.out.1 HINF.out.2.1 HINF.out.2.2.1 HINF.out.2.2.2 rfl (by decide) u4 (namesOf (l.take k)).length ((namesOf (l.take k)).map Value.string) (by simp [Act.eval, Act.put]) HMd.out.own _ _ _ _ _ (by simp [Act.eval, Act.put]; try rfl) HRD.out HBS.out.1 HBS.out.2.1 HBS.out.2.2.1 HBS.out.2.2.2 ?_
                 intro v5 w5 hown5 hgr5 hdis5
                 have HX := Lib.hid (HMd.out.next HNM.out hown5 hgr5 hdis5)
                 clear hown5 hgr5 hdis5))
          go_wp2_with fail
          go_roundw
          case rel => exact ⟨k + 1, _, _, by omega, by go_num, HX.out⟩
          case measure => simp [intOf]; omega
        · go_wp2_with fail
          go_region_held3 (fun w' => w'.cell? (ad.add (k * 3)) = some (.int .i64 d) ∧ w'.cell? ⟨(ad.add (k * 3)).block, (ad.add (k * 3)).off + 1, none⟩ = some (.string p) ∧ w'.cell? ⟨(ad.add (k * 3)).block, (ad.add (k * 3)).off + 2, none⟩ = some (.string q)) (first | exact ⟨c0, c1, c2⟩ | exact HI.out _ HM.out.lv.b)
            (first
              | (go_at_call 11
                 refine (lv_set (HRh.out.lv.below (w' := wr.drew) (Below.refl _ _).drew) p q _ _ _ rfl rfl (by omega) HP.out HQ.out).mono ?_
                 rintro e w3 ⟨rfl, fp3, h3, hs3⟩
                 have HM := Lib.hid (HRh.out.turn (p := p) (q := q) (Below.refl _ _).drew h3 hs3 (set_cov HRh.out.cov (p, q) _))
                 clear h3 hs3))
          clear HRh c0 c1 c2
          obtain ⟨c0, c1, c2⟩ := HI.out _ HM.out.lv.b
          go_wp2_with fail
          have HMd := Lib.hid (HM.out.drew (.cells #[.string p, .string q] 9))
          have HRD := Lib.hid (Kd.str_reads (lit2 w3.drew p q 9))
          have hb1 : ∀ u ∈ [p, q].map Value.string, u.oneCell' = true := fun u hu => by simp at hu; rcases hu with rfl | rfl <;> rfl
          have hb2 : (namesOf (l.take k)).length + [p, q].length ≤ maxLen := by have := HNL.out; unfold maxLen; simp; omega
          have hb3 : ((namesOf (l.take k)).length + [p, q].length) * 16 ≤ 140737488355328 := by have := HNL.out; simp; omega
          have hb4 : w.heap.size ≤ (w3.drew.alloc (.cells #[.string p, .string q] 9)).heap.size := HMd.out.lv.b.size
          have HBS := Lib.hid (⟨hb1, hb2, hb3, hb4⟩ : _ ∧ _ ∧ _ ∧ _)
          clear hb1 hb2 hb3 hb4
          go_region_held3 (fun w' => w'.cell? ⟨(ad.add (k * 3)).block, (ad.add (k * 3)).off + 1, none⟩ = some (.string p) ∧ w'.cell? ⟨(ad.add (k * 3)).block, (ad.add (k * 3)).off + 2, none⟩ = some (.string q)) (first | exact ⟨c1, c2⟩ | exact (HI.out _ HX.out.lv.b).2 | exact (HI.out _ HMd.out.lv.b).2)
            (first
              | (refine step_append_any _ rfl (.tmp 57) (.tmp 68) 38 rfl w.heap.size 9 i0 _ 1 16 Try.underlying38 HINF.out.1 HINF.out.2.1 HINF.out.2.2.1 HINF.out.2.2.2 rfl (by decide) u4 (namesOf (l.take k)).length ((namesOf (l.take k)).map Value.string) (by simp [Act.eval, Act.put]) HMd.out.own _ _ _ _ _ (by simp [Act.eval, Act.put]; try rfl) HRD.out HBS.out.1 HBS.out.2.1 HBS.out.2.2.1 HBS.out.2.2.2 ?_
                 intro v5 w5 hown5 hgr5 hdis5
                 have HX := Lib.hid (HMd.out.next HNM.out hown5 hgr5 hdis5)
                 clear hown5 hgr5 hdis5))
          go_wp2_with fail
          go_roundw
          case rel => exact ⟨k + 1, _, _, by omega, by go_num, HX.out⟩
          case measure => simp [intOf]; omega
      · have he : k = l.length := by omega
        subst he
        have hn : namesOf (l.take l.length) = namesOf l := by rw [List.take_length]
        have HO := Lib.hid (show wr.ownsRow w.heap.size 9 1 u4 (namesOf l).length ((namesOf l).map Value.string) from by have := HRh.out.own; rwa [hn] at this)
        have HCV := Lib.hid (show ∀ p ∈ S, p.1 ∈ mergeN (namesOf l) ∧ p.2 ∈ mergeN (namesOf l) from fun p hp => by have := HRh.out.cov p hp; rw [hn] at this; exact ⟨mergeN_mem.2 this.1, mergeN_mem.2 this.2⟩)
        obtain ⟨A1, c1, rfl, hc1⟩ : ∃ A1 c1, u4 = .slice A1 (namesOf l).length c1 ∧ (namesOf l).length ≤ c1 := by
          rcases HO.out.2 with ⟨h, h2⟩ | ⟨g, cap, cur, h, _, _, h2, _⟩
          · exact ⟨none, 0, by rw [h, h2], by omega⟩
          · exact ⟨_, _, h, h2⟩
        have HNL := Lib.hid (show (namesOf l).length ≤ 160 from by rw [namesOf_len]; omega)
        have HMG := Lib.hid (refMerge_any A1 c1 (namesOf l) wr (Kd.str_of_reads (Reads.of_own HO.out) (by have := HNL.out; omega)) hc1 (by have := HNL.out; omega))
        have HL := Lib.hid HRh.out.lv
        clear HRh HO hc1 hn HC
        go_wp2_with fail
        refine HMG.out.mono ?_
        rintro e w2 ⟨v, rfl, hR, hb⟩
        obtain ⟨A2, c2, rfl, hc2, hE2, _, _⟩ := lv_list HL.out hR hb
        obtain ⟨N, hN⟩ : ∃ N, N = mergeN (namesOf l) := ⟨_, rfl⟩
        rw [← hN] at hc2 hE2
        have HN := Lib.hid hN
        have HSm := Lib.hid (show SumAt w w2 x S (2 * l.length) fp A2 N from ⟨HL.out.below hb, hE2⟩)
        have HC2 := Lib.hid hc2
        rw [← hN] at HCV
        have hNl : N.length ≤ 160 := by have := HNL.out; have := length_mergeN (namesOf l); rw [hN]; omega
        have hSl : S.length ≤ 160 := by have := HL.out.ix.len; omega
        have HT := Lib.hid (show sumO S 0 N = S.length ∧ sumO S 1 N = S.length from by
          have hnd : N.Nodup := by rw [hN]; exact nodup_of_rising (mergeN_rising _)
          exact ⟨sumO_all HL.out.ix.nodup hnd (by omega) (fun p hp => by simpa [sideName] using (HCV.out p hp).1), sumO_all HL.out.ix.nodup hnd (by omega) (fun p hp => by simpa [sideName] using (HCV.out p hp).2)⟩)
        rw [← hN]
        clear hR hb hc2 hE2 HL HMG hN
        go_wp2_with fail
        go_loopw [6, 7, 8] (fun nv mv iv wr => ∃ i : Nat, i ≤ N.length ∧ nv = .int .i64 (sumO S 1 (N.take i)) ∧ mv = .int .i64 (sumO S 0 (N.take i)) ∧ iv = .int .i64 i ∧ SumAt w wr x S (2 * l.length) fp A2 N) (fun _ _ iv _ => N.length - (intOf iv).toNat)
        case atStart => exact ⟨0, by omega, rfl, rfl, rfl, HSm.out⟩
        case round =>
          clear HSm
          obtain ⟨i, hi, rfl, rfl, rfl, HR⟩ := hrel
          have HRi := Lib.hid HR
          clear HR
          by_cases hil : i < N.length
          · have hil' : (i : Int) < (N.length : Int) := by omega
            have hi0' : (0 : Int) ≤ i := by omega
            obtain ⟨ad2, rfl, cn⟩ := HRi.out.ext.at_ hil
            obtain ⟨nm, hnm⟩ : ∃ nm, N[i] = nm := ⟨_, rfl⟩
            rw [hnm] at cn
            have HNm := Lib.hid hnm
            have HSn := Lib.hid (show sz nm from by
              have h1 : nm ∈ namesOf l := by rw [← mergeN_mem, ← HN.out, ← hnm]; exact List.getElem_mem hil
              unfold namesOf at h1
              obtain ⟨o, ho, h2⟩ := List.mem_flatMap.1 h1
              obtain ⟨j, hj, rfl⟩ := List.getElem_of_mem ho
              have := HF.out.2 j hj
              simp at h2
              rcases h2 with rfl | rfl
              · exact sz_of this.1
              · exact sz_of this.2)
            clear hnm
            go_wp2_with fail
            refine (lv_watchers HRi.out.lv nm _ rfl (by omega) HSn.out).mono ?_
            rintro e w3 ⟨Aw, kw, rfl, hkw, hEw, _, hb⟩
            have HR3 := Lib.hid (HRi.out.below hb)
            have HEw := Lib.hid hEw
            have HKw := Lib.hid hkw
            clear hkw hEw hb HRi cn
            obtain ⟨_, e2, cn⟩ := HR3.out.ext.at_ hil
            cases e2
            rw [HNm.out] at cn
            go_wp2_with fail
            refine (lv_contacts HR3.out.lv nm _ rfl (by omega) HSn.out).mono ?_
            rintro e w4 ⟨Ac, kc, rfl, hkc, hEc, _, hb⟩
            have HR4 := Lib.hid (HR3.out.below hb)
            have HEw4 := Lib.hid (HEw.out.step (Step.below hb fp))
            have HEc := Lib.hid hEc
            have HKc := Lib.hid hkc
            clear hkc hEc hb HR3 HEw cn
            have hb1 : sumO S 1 (N.take (i + 1)) = sumO S 1 (N.take i) + (othersS S 1 nm).length := sumO_take hil HNm.out
            have hb0 : sumO S 0 (N.take (i + 1)) = sumO S 0 (N.take i) + (othersS S 0 nm).length := sumO_take hil HNm.out
            have hle : ∀ s, sumO S s (N.take (i + 1)) ≤ 25600 := fun s => Nat.le_trans (sumO_le S s _) (Nat.le_trans (Nat.mul_le_mul (show (N.take (i + 1)).length ≤ 160 by rw [List.length_take]; omega) hSl) (by omega))
            have hle1 := hle 1
            have hle0 := hle 0
            have hw1 : wrap64 ((sumO S 1 (N.take i) : Int) + ((othersS S 1 nm).length : Int)) = (sumO S 1 (N.take (i + 1)) : Int) := by unfold wrap64; omega
            have hw0 : wrap64 ((sumO S 0 (N.take i) : Int) + ((othersS S 0 nm).length : Int)) = (sumO S 0 (N.take (i + 1)) : Int) := by unfold wrap64; omega
            clear hb1 hb0 hle hle1 hle0
            obtain ⟨Lw, hLw⟩ : ∃ Lw, Lw = othersS S 1 nm := ⟨_, rfl⟩
            obtain ⟨Lc, hLc⟩ : ∃ Lc, Lc = othersS S 0 nm := ⟨_, rfl⟩
            rw [← hLw] at HEw4 HKw hw1
            rw [← hLc] at HEc HKc hw0
            have HIN := Lib.hid (show InAt w w4 x S (2 * l.length) fp (some ad2) N Aw Lw Ac Lc from ⟨HR4.out, HEw4.out, HEc.out⟩)
            have HLw := Lib.hid hLw
            have HLc := Lib.hid hLc
            rw [← hLw, ← hLc]
            have hlw : Lw.length ≤ 160 := by rw [hLw]; exact Nat.le_trans (othersS_len _ _ _) hSl
            have hlc : Lc.length ≤ 160 := by rw [hLc]; exact Nat.le_trans (othersS_len _ _ _) hSl
            clear hLw hLc HEw4 HEc HR4
            go_wp2_with fail
            go_loopw [11] (fun jv wr => ∃ j : Nat, j ≤ Lw.length ∧ jv = .int .i64 j ∧ InAt w wr x S (2 * l.length) fp (some ad2) N Aw Lw Ac Lc) (fun jv _ => Lw.length - (intOf jv).toNat)
            case atStart => exact ⟨0, by omega, rfl, HIN.out⟩
            case round =>
              clear HIN
              obtain ⟨j, hj, rfl, HR⟩ := hrel
              have HIn := Lib.hid HR
              clear HR
              by_cases hjl : j < Lw.length
              · have hjl' : (j : Int) < (Lw.length : Int) := by omega
                have hj0 : (0 : Int) ≤ j := by omega
                obtain ⟨adj, rfl, cj⟩ := HIn.out.ew.at_ hjl
                obtain ⟨y, hy⟩ : ∃ y, Lw[j] = y := ⟨_, rfl⟩
                rw [hy] at cj
                have HY := Lib.hid (show y ∈ othersS S 1 nm ∧ sz y from by
                  have h1 : y ∈ othersS S 1 nm := by rw [← HLw.out, ← hy]; exact List.getElem_mem hjl
                  exact ⟨h1, others_sz HIn.out.sum.lv.ix.names h1⟩)
                obtain ⟨_, e2, cn⟩ := HIn.out.sum.ext.at_ hil
                cases e2
                rw [HNm.out] at cn
                have HHas := Lib.hid (show ∀ n, Calls Try.prog 13 #[.pointer (some ⟨x, 0, none⟩), .string y, .string nm] (wr.drewN n) fun e w' => e = .returned (.bool true) ∧ w' = wr.drewN n from fun n =>
                  (lv_has (HIn.out.sum.lv.below (w' := wr.drewN n) (Below.drewN' (Below.refl _ _) n)) y nm true (by simpa using others_has (s := 1) (by omega) HY.out.1) HY.out.2 HSn.out).mono fun e w' ⟨h1, h2⟩ => ⟨h1, h2.symm⟩)
                by_cases hp : 0 < j
                · obtain ⟨j1, hj1⟩ : ∃ j1, j1 + 1 = j := ⟨j - 1, by omega⟩
                  obtain ⟨_, e3, cj1⟩ := HIn.out.ew.at_ (show j1 < Lw.length by omega)
                  cases e3
                  obtain ⟨y1, hy1⟩ : ∃ y1, Lw[j1] = y1 := ⟨_, rfl⟩
                  rw [hy1] at cj1
                  have hlt1 : ltN y1 y = true := by
                    have hr : Rising Lw := by rw [HLw.out]; exact mergeN_rising _
                    rw [← hy, ← hy1]
                    exact List.pairwise_iff_getElem.1 hr j1 j (by omega) hjl (by omega)
                  have HLess := Lib.hid (show ∀ n, Calls Try.prog 24 #[.string y1, .string y] (wr.drewN n) fun e w' => e = .returned (.bool true) ∧ ∃ m, w' = (wr.drewN n).drewN m from fun n => refLess_any y1 y _ true hlt1)
                  have hwr : IntKind.i64.wrap ((j : Int) - 1) = (j1 : Int) := by rw [IntKind.wrap_i64]; omega
                  have hj1' : (j1 : Int) < (Lw.length : Int) := by omega
                  have hj10 : (0 : Int) ≤ j1 := by omega
                  have hdec : decide ((0 : Int) < (j : Int)) = true := decide_eq_true (by omega)
                  have hdecN : decide (0 < j) = true := decide_eq_true (by omega)
                  have HJ := Lib.hid hj1
                  clear hlt1 hy hy1 hp hj1
                  go_wp2_with fail
                  go_quiet (first | (go_at_call 13; exact Calls.quiet_of_same (HHas.out _)) | (go_at_call 24; exact Calls.quiet_of (HLess.out _)))
                  go_wp2_with fail
                  go_roundw
                  case rel => exact ⟨j + 1, by omega, by go_num, HIn.out.below (Below.drewN' (Below.refl _ _) _)⟩
                  case measure => simp [intOf]; omega
                · have hdec : decide ((0 : Int) < (j : Int)) = false := decide_eq_false (by omega)
                  have hdecN : decide (0 < j) = false := decide_eq_false (by omega)
                  have HLess := Lib.hid trivial
                  have HJ := Lib.hid hp
                  clear hy hp
                  go_wp2_with fail
                  go_quiet (first | (go_at_call 13; exact Calls.quiet_of_same (HHas.out _)) | (go_at_call 24; exact Calls.quiet_of (HLess.out _)))
                  go_wp2_with fail
                  go_roundw
                  case rel => exact ⟨j + 1, by omega, by go_num, HIn.out.below (Below.drewN' (Below.refl _ _) _)⟩
                  case measure => simp [intOf]; omega
              · have HIO := Lib.hid HIn.out
                clear HIn
                go_wp2_with fail
                go_loopw [12] (fun jv wr => ∃ j : Nat, j ≤ Lc.length ∧ jv = .int .i64 j ∧ InAt w wr x S (2 * l.length) fp (some ad2) N Aw Lw Ac Lc) (fun jv _ => Lc.length - (intOf jv).toNat)
                case atStart => exact ⟨0, by omega, rfl, HIO.out⟩
                case round =>
                  clear HIO
                  obtain ⟨j, hj, rfl, HR⟩ := hrel
                  have HIn := Lib.hid HR
                  clear HR
                  by_cases hjl : j < Lc.length
                  · have hjl' : (j : Int) < (Lc.length : Int) := by omega
                    have hj0 : (0 : Int) ≤ j := by omega
                    obtain ⟨adj, rfl, cj⟩ := HIn.out.ec.at_ hjl
                    obtain ⟨y, hy⟩ : ∃ y, Lc[j] = y := ⟨_, rfl⟩
                    rw [hy] at cj
                    have HY := Lib.hid (show y ∈ othersS S 0 nm ∧ sz y from by
                      have h1 : y ∈ othersS S 0 nm := by rw [← HLc.out, ← hy]; exact List.getElem_mem hjl
                      exact ⟨h1, others_sz HIn.out.sum.lv.ix.names h1⟩)
                    obtain ⟨_, e2, cn⟩ := HIn.out.sum.ext.at_ hil
                    cases e2
                    rw [HNm.out] at cn
                    have HHas := Lib.hid (show ∀ n, Calls Try.prog 13 #[.pointer (some ⟨x, 0, none⟩), .string nm, .string y] (wr.drewN n) fun e w' => e = .returned (.bool true) ∧ w' = wr.drewN n from fun n =>
                      (lv_has (HIn.out.sum.lv.below (w' := wr.drewN n) (Below.drewN' (Below.refl _ _) n)) nm y true (by simpa using others_has (s := 0) (by omega) HY.out.1) HSn.out HY.out.2).mono fun e w' ⟨h1, h2⟩ => ⟨h1, h2.symm⟩)
                    by_cases hp : 0 < j
                    · obtain ⟨j1, hj1⟩ : ∃ j1, j1 + 1 = j := ⟨j - 1, by omega⟩
                      obtain ⟨_, e3, cj1⟩ := HIn.out.ec.at_ (show j1 < Lc.length by omega)
                      cases e3
                      obtain ⟨y1, hy1⟩ : ∃ y1, Lc[j1] = y1 := ⟨_, rfl⟩
                      rw [hy1] at cj1
                      have hlt1 : ltN y1 y = true := by
                        have hr : Rising Lc := by rw [HLc.out]; exact mergeN_rising _
                        rw [← hy, ← hy1]
                        exact List.pairwise_iff_getElem.1 hr j1 j (by omega) hjl (by omega)
                      have HLess := Lib.hid (show ∀ n, Calls Try.prog 24 #[.string y1, .string y] (wr.drewN n) fun e w' => e = .returned (.bool true) ∧ ∃ m, w' = (wr.drewN n).drewN m from fun n => refLess_any y1 y _ true hlt1)
                      have hwr : IntKind.i64.wrap ((j : Int) - 1) = (j1 : Int) := by rw [IntKind.wrap_i64]; omega
                      have hj1' : (j1 : Int) < (Lc.length : Int) := by omega
                      have hj10 : (0 : Int) ≤ j1 := by omega
                      have hdec : decide ((0 : Int) < (j : Int)) = true := decide_eq_true (by omega)
                      have hdecN : decide (0 < j) = true := decide_eq_true (by omega)
                      have HJ := Lib.hid hj1
                      clear hlt1 hy hy1 hp hj1
                      go_wp2_with fail
                      go_quiet (first | (go_at_call 13; exact Calls.quiet_of_same (HHas.out _)) | (go_at_call 24; exact Calls.quiet_of (HLess.out _)))
                      go_wp2_with fail
                      go_roundw
                      case rel => exact ⟨j + 1, by omega, by go_num, HIn.out.below (Below.drewN' (Below.refl _ _) _)⟩
                      case measure => simp [intOf]; omega
                    · have hdec : decide ((0 : Int) < (j : Int)) = false := decide_eq_false (by omega)
                      have hdecN : decide (0 < j) = false := decide_eq_false (by omega)
                      have HLess := Lib.hid trivial
                      have HJ := Lib.hid hp
                      clear hy hp
                      go_wp2_with fail
                      go_quiet (first | (go_at_call 13; exact Calls.quiet_of_same (HHas.out _)) | (go_at_call 24; exact Calls.quiet_of (HLess.out _)))
                      go_wp2_with fail
                      go_roundw
                      case rel => exact ⟨j + 1, by omega, by go_num, HIn.out.below (Below.drewN' (Below.refl _ _) _)⟩
                      case measure => simp [intOf]; omega
                  · have HIP := Lib.hid HIn.out.sum
                    clear HIn
                    go_wp2_with fail
                    go_roundw
                    case rel => exact ⟨i + 1, by omega, by rw [hw1], by rw [hw0], by go_num, HIP.out⟩
                    case measure => simp [intOf]; omega
          · have he : i = N.length := by omega
            subst he
            rw [List.take_length, HT.out.1, HT.out.2]
            go_wp2_with fail
            refine (lv_len HRi.out.lv _ rfl).mono ?_
            rintro e w3 ⟨rfl, rfl⟩
            go_wp2_with fail
            refine (lv_len HRi.out.lv _ rfl).mono ?_
            rintro e w3 ⟨rfl, rfl⟩
            go_wp2_with fail
            refine (live_any _).mono ?_
            rintro e w1 ⟨rfl, hb⟩
            have HB2 := Lib.hid (HRi.out.lv.b.trans (hb.mono HRi.out.lv.b.size))
            clear hb
            go_wp2_with fail
            go_ret
            exact ⟨rfl, HB2.out⟩
end Go.Proofs.Ytnpkjkhlbdkclaa
