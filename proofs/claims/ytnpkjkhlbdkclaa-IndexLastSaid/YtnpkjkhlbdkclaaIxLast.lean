/- IndexLast: the walk of the law. Condition: the list of calls lies in memory. -/
import Derived.Test.YtnpkjkhlbdkclaaOpsFew
import Derived.Deep.RegionHeld3
import Derived.StillTailTactics
set_option linter.unusedSimpArgs false
set_option linter.unusedVariables false
namespace Go.Proofs.Ytnpkjkhlbdkclaa
open Go.RowKit Go.Maps Go.MapKept Go.Proofs.YtnpkjkhlbdkclaaW.PrintWords Go.Proofs.Ytnpkjkhlbdkclaa.PIndexScripts

theorem hasP_setS (S : List Pr) (p q : Pr) (on : Bool) : hasP (setS S p on) q = if q = p then on else hasP S q := by
  rw [Bool.eq_iff_iff, hasP_iff, mem_setS]
  split
  · rfl
  · rw [hasP_iff]
theorem hasP_forgetS (S : List Pr) (u a b : ByteArray) : hasP (forgetS S u 2) (a, b) = (hasP S (a, b) && (decide (u ≠ a) && decide (u ≠ b))) := by
  rw [Bool.eq_iff_iff, hasP_iff]
  unfold forgetS
  simp only [List.mem_filter, Bool.and_eq_true, decide_eq_true_eq, hasP_iff]
  constructor
  · rintro ⟨h1, h2, h3⟩
    exact ⟨h1, fun e => h2.elim (fun h => by omega) (fun h => h e.symm), fun e => h3.elim (fun h => by omega) (fun h => h e.symm)⟩
  · rintro ⟨h1, h2, h3⟩
    exact ⟨h1, .inr fun e => h2 e.symm, .inr fun e => h3 e.symm⟩
theorem sz_of {s : ByteArray} (h : s.size ≤ 40) : sz s := by unfold sz maxLen; omega

theorem teq {p a : ByteArray} (h : p = a) : (p.toList == a.toList) = true := by rw [h]; simp
theorem teq' {p a : ByteArray} (h : p = a) : p.toList = a.toList := by rw [h]
theorem tne' {p a : ByteArray} (h : ¬ p = a) : ¬ p.toList = a.toList := fun e => h (bl_inj (by rw [← toList_bl, ← toList_bl]; exact e))
theorem tne {p a : ByteArray} (h : ¬ p = a) : (p.toList == a.toList) = false := by have := tne' h; simpa using this
/-- What the loop knows ahead of round k. -/
structure LastAt (w wr : World) (x : Nat) (a b : ByteArray) (k : Nat) (S : List Pr) (fp : List Nat) (want : Bool) : Prop where
  lv : Lv w wr x S (2 * k) fp
  want : want = hasP S (a, b)

theorem LastAt.set {w wr : World} {x : Nat} {a b p q : ByteArray} {k : Nat} {S : List Pr} {fp : List Nat} {want v on : Bool} (h : Lv w wr x (setS S (p, q) on) (2 * k + 2) fp) (hw : want = hasP S (a, b)) (hv : v = if p = a ∧ q = b then on else want) :
    LastAt w wr x a b (k + 1) (setS S (p, q) on) fp v := by
  refine ⟨h.mono (by omega), ?_⟩
  rw [hv, hasP_setS, hw]
  by_cases e : p = a ∧ q = b
  · rw [if_pos e, if_pos (by rw [e.1, e.2])]
  · rw [if_neg e, if_neg (fun h2 => e ⟨by injection h2 with h3 h4; exact h3.symm, by injection h2 with h3 h4; exact h4.symm⟩)]
theorem LastAt.forget {w wr : World} {x : Nat} {a b p : ByteArray} {k : Nat} {S : List Pr} {fp : List Nat} {want v : Bool} (h : Lv w wr x (forgetS S p 2) (2 * k) fp) (hw : want = hasP S (a, b)) (hv : v = (want && (decide (p ≠ a) && decide (p ≠ b)))) :
    LastAt w wr x a b (k + 1) (forgetS S p 2) fp v := ⟨h.mono (by omega), by rw [hv, hasP_forgetS, hw]⟩

set_option maxHeartbeats 4000000 in
set_option maxRecDepth 100000 in
theorem last_law (A : Option Addr) (cap : Nat) (l : List Opn) (a b : ByteArray) (w : World) (hC : Kd.C kOpn w A l.length l) (hcap : l.length ≤ cap) :
    Calls Try.prog 5 #[.slice A l.length cap, .string a, .string b] w fun e w' => e = .returned (.bool true) ∧ Below w.heap.size w w' := by
  have HC := Lib.hid hC
  clear hC
  cases hf : fewB l with
  | false =>
    go_enter Try.func5, Try.ntmps5
    go_wp2_with fail
    refine (few_any A cap l w HC.out hcap false hf).mono ?_
    rintro e w0 ⟨rfl, hb⟩
    have HB := Lib.hid hb
    clear hb
    go_wp2_with fail
    refine (live_any _).mono ?_
    rintro e w1 ⟨rfl, hb⟩
    have HB2 := Lib.hid (HB.out.trans (hb.mono HB.out.size))
    clear hb
    go_wp2_with fail
    go_ret
    exact ⟨rfl, HB2.out⟩
  | true =>
    have HF := Lib.hid (fewB_iff hf)
    have HL := Lib.hid (fewB_iff hf).1
    by_cases h1 : 40 < a.size
    · have h1' : (40 : Int) < a.size := by omega
      go_enter Try.func5, Try.ntmps5
      go_wp2_with fail
      refine (few_any A cap l w HC.out hcap true hf).mono ?_
      rintro e w0 ⟨rfl, hb⟩
      have HB := Lib.hid hb
      clear hb
      go_wp2_with fail
      refine (live_any _).mono ?_
      rintro e w1 ⟨rfl, hb⟩
      have HB2 := Lib.hid (HB.out.trans (hb.mono HB.out.size))
      clear hb
      go_wp2_with fail
      go_ret
      exact ⟨rfl, HB2.out⟩
    · have h1' : ¬ (40 : Int) < a.size := by omega
      by_cases h2 : 40 < b.size
      · have h2' : (40 : Int) < b.size := by omega
        go_enter Try.func5, Try.ntmps5
        go_wp2_with fail
        refine (few_any A cap l w HC.out hcap true hf).mono ?_
        rintro e w0 ⟨rfl, hb⟩
        have HB := Lib.hid hb
        clear hb
        go_wp2_with fail
        refine (live_any _).mono ?_
        rintro e w1 ⟨rfl, hb⟩
        have HB2 := Lib.hid (HB.out.trans (hb.mono HB.out.size))
        clear hb
        go_wp2_with fail
        go_ret
        exact ⟨rfl, HB2.out⟩
      · have h2' : ¬ (40 : Int) < b.size := by omega
        have HA := Lib.hid (sz_of (show a.size ≤ 40 by omega))
        have HBb := Lib.hid (sz_of (show b.size ≤ 40 by omega))
        have hlen : l.length ≤ 80 := HL.out
        go_enter Try.func5, Try.ntmps5
        go_wp2_with fail
        refine (few_any A cap l w HC.out hcap true hf).mono ?_
        rintro e w0 ⟨rfl, hb⟩
        have HB := Lib.hid hb
        clear hb h1 h2
        go_wp2_with fail
        refine (lv_new HB.out).mono ?_
        rintro e w1 ⟨x, fp0, rfl, h0, _, _⟩
        have H0 := Lib.hid h0
        clear h0 h1' h2' HB hf
        go_wp2_with fail
        go_loopw [8, 9] (fun v i wr => ∃ (k : Nat) (S : List Pr) (fp : List Nat) (want : Bool), k ≤ l.length ∧ i = .int .i64 k ∧ v = .bool want ∧ LastAt w wr x a b k S fp want) (fun _ i _ => l.length - (intOf i).toNat)
        case atStart => exact ⟨0, [], fp0, false, by omega, rfl, rfl, ⟨H0.out, rfl⟩⟩
        case round =>
          clear H0
          obtain ⟨k, S, fp, want, hk, rfl, rfl, HR⟩ := hrel
          have HRh := Lib.hid HR
          clear HR
          by_cases hlt : k < l.length
          · have hlt' : (k : Int) < (l.length : Int) := by omega
            have hlt0 : (0 : Int) ≤ k := by omega
            obtain ⟨ad, rfl, c0, c1, c2⟩ := op_at HC.out HRh.out.lv.b k hlt
            have hsz := HF.out.2 k hlt
            have HO := Lib.hid (show ∃ o : Opn, o = l[k] from ⟨_, rfl⟩)
            generalize l[k] = o at c0 c1 c2 hsz
            obtain ⟨d, p, q⟩ := o
            simp only at c0 c1 c2 hsz
            have HP := Lib.hid (sz_of hsz.1)
            have HQ := Lib.hid (sz_of hsz.2)
            clear hsz HO
            go_wp2_with fail
            have HI := Lib.hid (show OpIn _ _ d p q ∧ wr.heap.size ∉ fp from ⟨OpIn.new wr d p q, fun hm => by have := HRh.out.lv.ix.lt _ hm; omega⟩)
            have HL2 := Lib.hid (HRh.out.lv.below ((Below.refl _ _).alloc (Nat.le_refl _) (.cells #[.int .i64 d, .string p, .string q] 32)))
            have HW := Lib.hid HRh.out.want
            have HL2l := Lib.hid HRh.out.lv.ix.len
            clear c0 c1 c2 HRh
            generalize wr.heap.size = ob at *
            generalize wr.alloc (.cells #[.int .i64 d, .string p, .string q] 32) = w2 at *
            obtain ⟨c3, c4, c5⟩ := HI.out.1.cells
            refine (lv_has HL2.out p q _ rfl HP.out HQ.out).mono ?_
            rintro e w3 ⟨rfl, rfl⟩
            go_wp2_with fail
            refine (lv_len HL2.out _ rfl).mono ?_
            rintro e w3 ⟨rfl, rfl⟩
            by_cases d0 : d = 0
            · subst d0
              go_wp2_with fail
              go_region_held3 (fun w' => w'.cell? ⟨ob, 0, none⟩ = some (.int .i64 0) ∧ w'.cell? ⟨ob, 1, none⟩ = some (.string p) ∧ w'.cell? ⟨ob, 2, none⟩ = some (.string q)) (first | exact HI.out.1.cells | exact HK.out.1.cells)
                (first
                  | (go_at_call 11
                     refine (lv_set (HL2.out.below (w' := w2.drew) (Below.refl _ _).drew) p q true _ _ rfl rfl (by omega) HP.out HQ.out).mono ?_
                     rintro e w3 ⟨rfl, fp3, h1, hs⟩
                     have HK := Lib.hid (OpIn.step (OpIn.drew HI.out) hs)
                     have HL3 := Lib.hid h1
                     clear hs h1))
              clear HI HL2 c3 c4 c5
              obtain ⟨c3, c4, c5⟩ := HK.out.1.cells
              by_cases hpa : p = a
              · have t1 := teq hpa
                have t2 := teq' hpa
                by_cases hqb : q = b
                · have t3 := teq hqb
                  go_wp2_with fail
                  go_roundw
                  case rel => exact ⟨k + 1, _, _, _, by omega, by go_num, rfl, LastAt.set HL3.out HW.out (by rw [if_pos ⟨hpa, hqb⟩])⟩
                  case measure => simp [intOf]; omega
                · have t3 := tne hqb
                  go_wp2_with fail
                  go_roundw
                  case rel => exact ⟨k + 1, _, _, _, by omega, by go_num, rfl, LastAt.set HL3.out HW.out (by rw [if_neg (fun h => hqb h.2)])⟩
                  case measure => simp [intOf]; omega
              · have t1 := tne hpa
                have t2 := tne' hpa
                go_wp2_with fail
                go_roundw
                case rel => exact ⟨k + 1, _, _, _, by omega, by go_num, rfl, LastAt.set HL3.out HW.out (by rw [if_neg (fun h => hpa h.1)])⟩
                case measure => simp [intOf]; omega
            · by_cases d1 : d = 1
              · subst d1
                go_wp2_with fail
                go_region_held3 (fun w' => w'.cell? ⟨ob, 0, none⟩ = some (.int .i64 1) ∧ w'.cell? ⟨ob, 1, none⟩ = some (.string p) ∧ w'.cell? ⟨ob, 2, none⟩ = some (.string q)) (first | exact HI.out.1.cells | exact HK.out.1.cells)
                  (first
                    | (go_at_call 11
                       refine (lv_set (HL2.out.below (w' := w2.drew) (Below.refl _ _).drew) p q false _ _ rfl rfl (by omega) HP.out HQ.out).mono ?_
                       rintro e w3 ⟨rfl, fp3, h1, hs⟩
                       have HK := Lib.hid (OpIn.step (OpIn.drew HI.out) hs)
                       have HL3 := Lib.hid h1
                       clear hs h1))
                clear HI HL2 c3 c4 c5
                obtain ⟨c3, c4, c5⟩ := HK.out.1.cells
                by_cases hpa : p = a
                · have t1 := teq hpa
                  have t2 := teq' hpa
                  by_cases hqb : q = b
                  · have t3 := teq hqb
                    go_wp2_with fail
                    go_roundw
                    case rel => exact ⟨k + 1, _, _, _, by omega, by go_num, rfl, LastAt.set HL3.out HW.out (by rw [if_pos ⟨hpa, hqb⟩])⟩
                    case measure => simp [intOf]; omega
                  · have t3 := tne hqb
                    go_wp2_with fail
                    go_roundw
                    case rel => exact ⟨k + 1, _, _, _, by omega, by go_num, rfl, LastAt.set HL3.out HW.out (by rw [if_neg (fun h => hqb h.2)])⟩
                    case measure => simp [intOf]; omega
                · have t1 := tne hpa
                  have t2 := tne' hpa
                  go_wp2_with fail
                  go_roundw
                  case rel => exact ⟨k + 1, _, _, _, by omega, by go_num, rfl, LastAt.set HL3.out HW.out (by rw [if_neg (fun h => hpa h.1)])⟩
                  case measure => simp [intOf]; omega
              · by_cases d3 : d = 3
                · subst d3
                  go_wp2_with fail
                  refine (lv_forget HL2.out p _ _ rfl rfl (by omega) HP.out).mono ?_
                  rintro e w3 ⟨rfl, fp3, h1, hs⟩
                  have HK := Lib.hid (OpIn.step HI.out hs)
                  have HL3 := Lib.hid h1
                  clear HI HL2 c3 c4 c5 h1 hs
                  obtain ⟨c3, c4, c5⟩ := HK.out.1.cells
                  go_wp2_with fail
                  have hsl : S.length ≤ 160 := by have := HL2l.out; omega
                  have hsf : (forgetS S p 2).length ≤ S.length := List.length_filter_le _ _
                  refine (lv_len HL3.out _ rfl).mono ?_
                  rintro e w4 ⟨rfl, rfl⟩
                  have hss : wrap64 ((S.length : Int) - ((forgetS S p 2).length : Int)) = (S.length : Int) - ((forgetS S p 2).length : Int) := by unfold wrap64; omega
                  cases want
                  · go_wp2_with fail
                    go_roundw
                    case rel => exact ⟨k + 1, _, _, _, by omega, by go_num, rfl, LastAt.forget HL3.out HW.out rfl⟩
                    case measure => simp [intOf]; omega
                  · by_cases hpa : p = a
                    · have t1 := teq hpa
                      have t2 := teq' hpa
                      have Hpa := Lib.hid hpa
                      clear hpa
                      go_wp2_with fail
                      go_roundw
                      case rel => exact ⟨k + 1, _, _, _, by omega, by go_num, rfl, LastAt.forget HL3.out HW.out (by simp [Hpa.out])⟩
                      case measure => simp [intOf]; omega
                    · have t1 := tne hpa
                      have t2 := tne' hpa
                      by_cases hqb : p = b
                      · have t3 := teq hqb
                        have t4 := teq' hqb
                        have t5 : ¬ b.toList = a.toList := by rw [← t4]; exact t2
                        have Hqb := Lib.hid hqb
                        clear hqb
                        go_wp2_with fail
                        go_roundw
                        case rel => exact ⟨k + 1, _, _, _, by omega, by go_num, rfl, LastAt.forget HL3.out HW.out (by simp [Hqb.out])⟩
                        case measure => simp [intOf]; omega
                      · have t3 := tne hqb
                        have t4 := tne' hqb
                        go_wp2_with fail
                        go_roundw
                        case rel => exact ⟨k + 1, _, _, _, by omega, by go_num, rfl, LastAt.forget HL3.out HW.out (by simp [hpa, hqb])⟩
                        case measure => simp [intOf]; omega
                · go_wp2_with fail
                  go_roundw
                  case rel => exact ⟨k + 1, _, _, _, by omega, by go_num, rfl, ⟨HL2.out.mono (by omega), HW.out⟩⟩
                  case measure => simp [intOf]; omega
          · have he : k = l.length := by omega
            subst he
            go_wp2_with fail
            refine (lv_has HRh.out.lv a b want HRh.out.want.symm HA.out HBb.out).mono ?_
            rintro e w3 ⟨rfl, rfl⟩
            go_wp2_with fail
            refine (live_any _).mono ?_
            rintro e w1 ⟨rfl, hb⟩
            have HB2 := Lib.hid (HRh.out.lv.b.trans (hb.mono HRh.out.lv.b.size))
            clear hb
            go_wp2_with fail
            go_ret
            exact ⟨rfl, HB2.out⟩
end Go.Proofs.Ytnpkjkhlbdkclaa
