/- ident.Merge: all texts of two lists, each once, by the order. Condition: room. -/
import Derived.Test.YtnpkjkhlbdkclaaIdConcat
import Derived.Test.YtnpkjkhlbdkclaaIdCmp
import Derived.Sort.OwnSorted
import Derived.Lib.RowBridge
set_option linter.unusedSimpArgs false
set_option linter.unusedVariables false
namespace Go.Proofs.Ytnpkjkhlbdkclaa
open Go.RowKit Go.Sort Go.Proofs Go.Lib Go.Proofs.YtnpkjkhlbdkclaaW.PrintWords

def cfN (x y : List UInt8) : Int := cmpN ⟨x.toArray⟩ ⟨y.toArray⟩
theorem ltOf_cfN (x y : List UInt8) : ltOf cfN x y = ltN ⟨x.toArray⟩ ⟨y.toArray⟩ := cmpN_lt _ _
theorem swoN : SWO (ltOf cfN) where
  irrefl x := by rw [ltOf_cfN]; exact ltN_irrefl _
  trans x y z h1 h2 := by rw [ltOf_cfN] at *; exact ltN_trans h1 h2
  ntrans x y z h1 h2 := by
    rw [ltOf_cfN] at *
    rw [Bool.eq_false_iff]
    intro h3
    by_cases e : (⟨x.toArray⟩ : ByteArray) = ⟨y.toArray⟩
    · rw [e] at h3; rw [h3] at h2; cases h2
    · rcases ltN_total e with h4 | h4
      · rw [h4] at h1; cases h1
      · have := ltN_trans h4 h3
        rw [this] at h2; cases h2
theorem totN (x y : List UInt8) (h1 : ltOf cfN x y = false) (h2 : ltOf cfN y x = false) : x = y := by
  rw [ltOf_cfN] at *
  by_cases e : (⟨x.toArray⟩ : ByteArray) = ⟨y.toArray⟩
  · injection e with e
    simpa using congrArg Array.toList e
  · rcases ltN_total e with h4 | h4
    · rw [h4] at h1; cases h1
    · rw [h4] at h2; cases h2
theorem alloc_grow (W : World) (o : Obj) : W.alloc o = grow (W.drewN 0) #[o] := by
  unfold grow World.drewN World.alloc
  simp
theorem cmpLays (blk off size : Nat) (w : World) : CmpLays1 Try.prog 32 #[] encStr cfN blk off size w := by
  intro m os dk hs x y
  exact (compare_any ⟨x.toArray⟩ ⟨y.toArray⟩ _).mono fun e w' ⟨he, o, hw⟩ => ⟨he, 0, #[o], by rw [hw, alloc_grow]⟩

def leN (x y : List UInt8) : Bool := !ltOf cfN y x
theorem bl_mk (s : ByteArray) : (⟨(bl s).toArray⟩ : ByteArray) = s := by cases s; rfl
def mk (l : List UInt8) : ByteArray := ⟨l.toArray⟩
theorem mk_bl (s : ByteArray) : mk (bl s) = s := bl_mk s
theorem bl_of_mk (l : List UInt8) : bl (mk l) = l := by simp [bl, mk]
theorem leN_trans (a b c : List UInt8) (h1 : leN a b = true) (h2 : leN b c = true) : leN a c = true := by
  unfold leN at *
  simp only [Bool.not_eq_true'] at *
  exact swoN.ntrans _ _ _ h2 h1
theorem leN_total (a b : List UInt8) : (leN a b || leN b a) = true := by
  unfold leN
  cases h1 : ltOf cfN b a
  · rfl
  · simp only [Bool.not_true, Bool.false_or, Bool.not_eq_true']
    rw [ltOf_cfN] at *
    exact ltN_asymm h1

theorem compact_rising : ∀ (l : List (List UInt8)), l.Pairwise (fun a b => leN a b = true) → ∀ m, (hm : m ≤ l.length) → Rising ((compactUpTo l.toArray m).map mk) ∧ (∀ x, x ∈ compactUpTo l.toArray m ↔ x ∈ l.take m) ∧ (∀ x ∈ compactUpTo l.toArray m, ∀ (h : 0 < m), leN x (l[m-1]'(by omega)) = true) := by
  intro l hp m
  have hpi := List.pairwise_iff_getElem.1 hp
  induction m with
  | zero => intro _; exact ⟨by simp [compactUpTo, Rising], by simp [compactUpTo], by simp [compactUpTo]⟩
  | succ m ih =>
    intro hm
    obtain ⟨h1, h2, h3⟩ := ih (by omega)
    have hml : m < l.length := by omega
    have hget : (l.toArray[m]!) = l[m] := by simp [hml]
    have htake : l.take (m + 1) = l.take m ++ [l[m]] := by rw [List.take_succ_eq_append_getElem hml]
    have hlast : ∀ x ∈ l.take m, leN x l[m] = true := fun x hx => by
      obtain ⟨i, hi, e⟩ := List.getElem_of_mem hx
      rw [List.getElem_take] at e
      have hi' : i < m := by simp at hi; omega
      rw [← e]
      exact hpi i m (by omega) hml hi'
    have hself : leN l[m] l[m] = true := by unfold leN; rw [swoN.irrefl]; rfl
    rw [compactUpTo_succ, htake]
    by_cases hk : keeps l.toArray m = true
    · rw [if_pos hk, hget]
      refine ⟨?_, fun x => by rw [List.mem_append, List.mem_append, h2 x], fun x hx _ => ?_⟩
      · rw [List.map_append]
        unfold Rising
        rw [List.pairwise_append]
        refine ⟨h1, by simp, ?_⟩
        intro a ha b hb
        obtain ⟨x, hx, rfl⟩ := List.mem_map.1 ha
        simp at hb
        subst hb
        have hxm : leN x l[m] = true := hlast x ((h2 x).1 hx)
        have hne : x ≠ l[m] := by
          intro e
          unfold keeps at hk
          simp only [decide_eq_true_eq] at hk
          rcases hk with hk | hk
          · subst hk; simp [compactUpTo] at hx
          · apply hk
            have hm0 : 0 < m := by
              rcases Nat.eq_zero_or_pos m with h0 | h0
              · subst h0; simp [compactUpTo] at hx
              · exact h0
            have h4 := h3 x hx hm0
            have hg1 : l.toArray[m - 1]! = l[m-1]'(by omega) := by simp [show m - 1 < l.length by omega]
            rw [hget, hg1]
            have h5 : leN (l[m-1]'(by omega)) l[m] = true := hpi (m-1) m (by omega) hml (by omega)
            rw [← e] at h5 ⊢
            have h6 : ltOf cfN (l[m-1]'(by omega)) x = false := by unfold leN at h4; simpa using h4
            have h7 : ltOf cfN x (l[m-1]'(by omega)) = false := by unfold leN at h5; simpa using h5
            exact totN _ _ h7 h6
        show ltN (mk x) (mk l[m]) = true
        have h8 : ltOf cfN l[m] x = false := by unfold leN at hxm; simpa using hxm
        cases h9 : ltN (mk x) (mk l[m]) with
        | true => rfl
        | false =>
          have h10 : ltOf cfN x l[m] = false := by rw [ltOf_cfN]; exact h9
          exact absurd (totN _ _ h10 h8) hne
      · simp only [Nat.add_sub_cancel]
        rcases List.mem_append.1 hx with hx | hx
        · exact hlast x ((h2 x).1 hx)
        · simp at hx; subst hx; exact hself
    · rw [if_neg hk, List.append_nil]
      have hk' : m ≠ 0 ∧ l[m] = l[m-1]'(by omega) := by
        unfold keeps at hk
        simp only [decide_eq_true_eq, not_or, Classical.not_not] at hk
        obtain ⟨hk1, hk2⟩ := hk
        have hg1 : l.toArray[m - 1]! = l[m-1]'(by omega) := by simp [show m - 1 < l.length by omega]
        rw [hget, hg1] at hk2
        exact ⟨hk1, hk2⟩
      refine ⟨h1, fun x => ?_, fun x hx _ => ?_⟩
      · rw [h2 x, List.mem_append, List.mem_singleton]
        constructor
        · exact .inl
        · rintro (h | h)
          · exact h
          · subst h
            rw [hk'.2, List.mem_take_iff_getElem]
            exact ⟨m - 1, by omega, rfl⟩
      · simp only [Nat.add_sub_cancel]
        exact hlast x ((h2 x).1 hx)

/-- What sorting, then compacting, tells. -/
theorem sort_compact (l : List ByteArray) : (compact ((l.map bl).mergeSort leN)).map mk = mergeN l := by
  have hs := List.pairwise_mergeSort leN_trans leN_total (l.map bl)
  have hc := compact_rising _ hs _ (Nat.le_refl _)
  unfold compact
  refine mergeN_unique hc.1 (fun x => ?_)
  rw [List.mem_map]
  constructor
  · rintro ⟨y, hy, rfl⟩
    have := (hc.2.1 y).1 hy
    rw [List.take_length, List.mem_mergeSort, List.mem_map] at this
    obtain ⟨z, hz, rfl⟩ := this
    rw [mk_bl]
    exact hz
  · intro hx
    refine ⟨bl x, (hc.2.1 _).2 ?_, mk_bl x⟩
    rw [List.take_length, List.mem_mergeSort]
    exact List.mem_map.2 ⟨x, hx, rfl⟩

theorem encStr_bl (s : ByteArray) : encStr (bl s) = .string s := by unfold encStr; rw [bl_mk]
theorem map_enc (l : List ByteArray) : (l.map bl).map encStr = l.map Value.string := by
  rw [List.map_map]
  exact List.map_congr_left (fun s _ => encStr_bl s)
theorem map_mk (l : List (List UInt8)) : l.map encStr = (l.map mk).map Value.string := by
  rw [List.map_map]
  rfl

theorem ownsRow_cut {w : World} {base g cap n m : Nat} {e : TypeId} {cur : Array Value} {ts zs : List (List UInt8)} (hbase : base ≤ g) (hb : w.heap[g]? = some (.cells cur e (0, 0))) (hm : zs.length = m) (hz : zs <+: ts)
    (h1 : ts.length ≤ cap) (h2 : cap ≤ maxLen) (h3 : cur.size = cap * 1) :
    (putRow encStr (Sort.ahead w n) g 0 ts.toArray).ownsRow base e 1 (.slice (some ⟨g, 0, none⟩) m cap) m (zs.map encStr) := by
  have hl := hz.length_le
  have hh := heap_sorted (n := n) (os := #[]) ts.toArray hb
  rw [grow_empty] at hh
  refine ⟨by simp [hm], .inr ⟨g, cap, _, rfl, hbase, hh, by omega, h2, by simp [putCells, h3], ?_⟩⟩
  have ht := take_putCells cur ts (by omega)
  have h4 := congrArg (List.take m) ht
  rw [List.take_take, Nat.min_eq_left (by omega)] at h4
  rw [Nat.mul_one, h4, ← List.map_take]
  congr 1
  rw [← hm]
  exact (List.prefix_iff_eq_take.1 hz).symm

set_option maxHeartbeats 1000000 in
theorem merge_said : MergeSaid := by
  intro A0 c0 l0 A1 c1 l1 w hr0 hc0 hr1 hc1 hroom
  have r0 := Kd.str_reads hr0
  have r1 := Kd.str_reads hr1
  have hcomp := fun (n : Nat) (v : Value) => Try.slices_Compact_string_empty
  have R0 := Lib.hid r0
  have R1 := Lib.hid r1
  clear r0 r1 hr0 hr1
  go_enter Try.func29, Try.ntmps29
  go_wp2_with fail
  refine (concat_any A0 c0 l0 A1 c1 l1 w.heap.size 2 _ ?_ ?_ ?_ ?_ hroom).mono ?_
  · exact (R0.out.alloc (Nat.le_refl _) _).more (by simp)
  · exact (R1.out.alloc (Nat.le_refl _) _).more (by simp)
  · simp [go_sem]
  · simp [go_sem]
  rintro e w1 ⟨v, rfl, hown, hb⟩
  have HB := Lib.hid (show Below w.heap.size w w1 from ((Below.refl _ _).alloc (Nat.le_refl _) _).trans (hb.mono (by simp)))
  have HOWN := Lib.hid hown
  clear hown hb
  by_cases h0 : l0.length + l1.length = 0
  · obtain ⟨A, cap, rfl⟩ : ∃ A cap, v = .slice A 0 cap := by
      rcases HOWN.out.2 with ⟨h, _⟩ | ⟨g, cap, cur, h, _⟩
      · exact ⟨none, 0, h⟩
      · rw [h0] at h; exact ⟨_, cap, h⟩
    have hnil : l0 ++ l1 = [] := List.eq_nil_of_length_eq_zero (by rw [List.length_append]; exact h0)
    have HNIL := Lib.hid hnil
    have h0' := Lib.hid h0
    clear hnil h0 hcomp
    go_wp2_with fail
    have hS := fun fv W => Try.slices_SortFunc_none (α := List UInt8) A cap fv W
    refine (hS _ _).mono ?_
    rintro e w2 ⟨rfl, rfl⟩
    clear hS
    go_wp2_with fail
    refine (Try.slices_Compact_string_empty _ _ _).mono ?_
    rintro e w2 ⟨rfl, rfl⟩
    go_wp2_with fail
    go_ret
    refine ⟨_, rfl, ?_, HB.out⟩
    rw [HNIL.out]
    have h := HOWN.out
    rw [HNIL.out] at h
    have hz : mergeN [] = [] := rfl
    rw [hz]
    simp only [World.size_alloc, h0'.out] at h
    exact Kd.str_of_own (own_weaken h (Nat.le_succ _))
  · obtain ⟨g, cap, cur, rfl, hg, hcur, hn, hcm, hsz, htk⟩ : ∃ g cap cur, v = .slice (some ⟨g, 0, none⟩) (l0.length + l1.length) cap ∧ w.heap.size + 1 ≤ g ∧ w1.heap[g]? = some (.cells cur 9 (0, 0)) ∧ l0.length + l1.length ≤ cap ∧ cap ≤ maxLen ∧ cur.size = cap * 1 ∧ cur.toList.take ((l0.length + l1.length) * 1) = (l0 ++ l1).map Value.string := by
      rcases HOWN.out.2 with ⟨_, h⟩ | h
      · exact absurd h h0
      · simpa using h
    have hll : ((l0 ++ l1).map bl).length = l0.length + l1.length := by simp
    have hlm : (((l0 ++ l1).map bl).mergeSort leN).length = l0.length + l1.length := by rw [List.length_mergeSort]; exact hll
    have hsz1 : ((l0 ++ l1).map bl).toArray.size = l0.length + l1.length := by simp
    have hH : Holds encStr w1 g 0 ((l0 ++ l1).map bl).toArray := holds_of_block hcur (by rw [hll, map_enc]; simpa using htk)
    have hglt : g < w1.heap.size := (Array.getElem?_eq_some_iff.1 hcur).1
    have hS := Try.slices_SortFunc_total encStr (fun _ => rfl) cfN swoN 32 #[] g 0 cap ((l0 ++ l1).map bl).toArray w1 (enters_of Try.func32 (by kernel_rfl) rfl) (cmpLays g 0 _ w1) hH hglt (by rw [hsz1]; omega) totN
    rw [hsz1] at hS
    have hcm1 : l0.length + l1.length ≤ 9223372036854775807 := by omega
    have HC := Lib.hid (⟨hcur, hn, hcm, hsz, hH, hg, hglt⟩ : _ ∧ _ ∧ _ ∧ _ ∧ _ ∧ _ ∧ _)
    have HS := Lib.hid hS
    have HL := Lib.hid hlm
    clear hcur hn hcm hsz htk hll hlm hsz1 hH hglt hS h0 hcomp hcm1
    go_wp2_with fail
    refine HS.out.mono ?_
    rintro e w2 ⟨rfl, q, os, hw2⟩
    have HW2 := Lib.hid hw2
    clear hw2
    go_wp2_with fail
    obtain ⟨hcur, hn, hcm, hsz, hH, hg', hglt⟩ := HC.out
    have hw2 := HW2.out
    have hcur2 := heap_sorted (n := q) (os := os) ((((l0 ++ l1).map bl).mergeSort leN).toArray) hcur
    have e2 : w2 = grow (putRow encStr (Sort.ahead w1 q) g 0 (((l0 ++ l1).map bl).mergeSort leN).toArray) os := hw2
    rw [← e2] at hcur2
    have hH2 : Holds encStr w2 g 0 (((l0 ++ l1).map bl).mergeSort leN).toArray := holds_of_block hcur2 (take_putCells _ _ (by rw [HL.out]; omega))
    have hC := Try.slices_Compact_string g 0 cap (((l0 ++ l1).map bl).mergeSort leN) w2 hH2 (by rw [HL.out]; omega) (by rw [HL.out]; exact hn)
    have hg2 : w1.grownBy w2 (some g) := by rw [e2]; exact grownBy_sorted _
    have hcl := compact_length_le (((l0 ++ l1).map bl).mergeSort leN)
    have hlen : (Lib.compact (((l0 ++ l1).map bl).mergeSort leN) ++ List.replicate ((((l0 ++ l1).map bl).mergeSort leN).length - (Lib.compact (((l0 ++ l1).map bl).mergeSort leN)).length) []).length = l0.length + l1.length := by
      have := HL.out
      simp only [List.length_append, List.length_replicate]
      omega
    have hput : (putCells encStr 0 (((l0 ++ l1).map bl).mergeSort leN).toArray cur).size = cap * 1 := by simp [putCells, hsz]
    rw [HL.out] at hC hlen
    refine hC.mono ?_
    rintro e w3 ⟨rfl, q2, hw3⟩
    have hown3 := ownsRow_cut (base := w.heap.size) (n := q2) (m := (Lib.compact (((l0 ++ l1).map bl).mergeSort leN)).length) (zs := Lib.compact (((l0 ++ l1).map bl).mergeSort leN)) (by omega) hcur2 rfl (List.prefix_append _ _) (by rw [hlen]; exact hn) hcm hput
    have hg3 : w2.grownBy w3 (some g) := by
      have := grownBy_sorted (w := w2) (g := g) (n := q2) (os := #[]) ((Lib.compact (((l0 ++ l1).map bl).mergeSort leN) ++ List.replicate (l0.length + l1.length - (Lib.compact (((l0 ++ l1).map bl).mergeSort leN)).length) []).toArray)
      rw [grow_empty] at this
      rw [hw3]
      exact this
    rw [← hw3, map_mk, sort_compact] at hown3
    have hm : (Lib.compact (((l0 ++ l1).map bl).mergeSort leN)).length = (mergeN (l0 ++ l1)).length := by rw [← sort_compact, List.length_map]
    rw [hm] at hown3
    have HX := Lib.hid (Kd.str_of_own hown3)
    have HB3 := Lib.hid (((HB.out.grown hg2 HB.out.size (fun k hk => by cases hk; omega)).grown hg3 (Nat.le_trans HB.out.size hg2.size) (fun k hk => by cases hk; omega)))
    rw [hm]
    clear hcur hn hcm hsz hH hg' hglt hw2 hcur2 e2 hH2 hC hg2 hcl hlen hput hown3 hg3 hm hw3
    go_wp2_with fail
    go_ret
    exact ⟨_, rfl, HX.out, HB3.out⟩
end Go.Proofs.Ytnpkjkhlbdkclaa
