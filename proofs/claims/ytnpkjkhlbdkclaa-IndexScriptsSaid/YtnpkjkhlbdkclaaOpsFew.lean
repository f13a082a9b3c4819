/- few: are a law's calls few, of short names? What it tells; and a call that is read. Condition: the list lies in memory. -/
import Derived.Test.YtnpkjkhlbdkclaaPIndexScriptsx1
import Derived.Test.YtnpkjkhlbdkclaaIxLiveW
set_option linter.unusedSimpArgs false
set_option linter.unusedVariables false
namespace Go.Proofs.Ytnpkjkhlbdkclaa
open Go.RowKit Go.Maps Go.MapKept Go.Proofs.YtnpkjkhlbdkclaaW.PrintWords Go.Proofs.Ytnpkjkhlbdkclaa.PIndexScripts

abbrev Opn := S32
abbrev kOpn : Kd Opn := k32
def okOp (o : Opn) : Bool := decide (o.f1.size ≤ 40) && decide (o.f2.size ≤ 40)
def fewB (l : List Opn) : Bool := decide (l.length ≤ 80) && l.all okOp
theorem rdOp (l : List Opn) (i : Nat) (h : i < l.length) : rd_T32 l (i : Int) = l[i] := by
  unfold rd_T32
  simp [h]
theorem few_from (l : List Opn) (hl : l.length ≤ 80) : ∀ (d k i : Nat), i + d = l.length → d < k → rollcalllaw13_few.l0 k l (i : Int) = some ((l.drop i).all okOp)
  | 0, k, i, hd, hk => by
    obtain ⟨k, rfl⟩ : ∃ m, k = m + 1 := ⟨k - 1, by omega⟩
    have hi : i = l.length := by omega
    subst hi
    simp only [rollcalllaw13_few.l0]
    rw [if_neg (by omega), List.drop_length]
    rfl
  | d + 1, k, i, hd, hk => by
    obtain ⟨k, rfl⟩ : ∃ m, k = m + 1 := ⟨k - 1, by omega⟩
    have hi : i < l.length := by omega
    have ih := few_from l hl d k (i + 1) (by omega) (by omega)
    simp only [rollcalllaw13_few.l0]
    have hdrop : l.drop i = l[i] :: l.drop (i + 1) := by rw [List.drop_eq_getElem_cons hi]
    rw [if_pos (by omega), if_pos (by omega), rdOp l i hi, wrap_nat (by omega), ih, hdrop]
    simp only [List.all_cons]
    unfold okOp
    by_cases h1 : 40 < l[i].f1.size
    · rw [if_pos (by omega)]
      simp [show ¬ l[i].f1.size ≤ 40 by omega]
    · rw [if_neg (by omega)]
      by_cases h2 : 40 < l[i].f2.size
      · rw [if_pos (by omega)]
        simp [show ¬ l[i].f2.size ≤ 40 by omega]
      · rw [if_neg (by omega)]
        simp [show l[i].f1.size ≤ 40 by omega, show l[i].f2.size ≤ 40 by omega]
theorem few_eq (l : List Opn) : rollcalllaw13_few.f 200000 l = some (fewB l) := by
  unfold rollcalllaw13_few.f fewB
  by_cases h : l.length ≤ 80
  · rw [if_neg (by omega)]
    have := few_from l h l.length 200000 0 (by omega) (by omega)
    simpa [h] using this
  · rw [if_pos (by omega)]
    simp [h]
theorem few_any (A : Option Addr) (c : Nat) (l : List Opn) (w : World) (h : Kd.C kOpn w A l.length l) (hc : l.length ≤ c) (r : Bool) (hr : fewB l = r) :
    Calls Try.prog 8 #[.slice A l.length c] w fun e w' => e = .returned (.bool r) ∧ Below w.heap.size w w' :=
  (rollcalllaw13_few.calls 200000 A c l r w h hc (by rw [← hr]; exact few_eq l)).mono fun e w' ⟨he, hw⟩ => by
    obtain ⟨q, rfl⟩ := hw.out
    exact ⟨he, ⟨rfl, rfl, rfl, Nat.le_refl _, fun _ _ => rfl⟩⟩
theorem fewB_iff {l : List Opn} (h : fewB l = true) : l.length ≤ 80 ∧ ∀ i (hi : i < l.length), l[i].f1.size ≤ 40 ∧ l[i].f2.size ≤ 40 := by
  unfold fewB at h
  simp only [Bool.and_eq_true, decide_eq_true_eq, List.all_eq_true] at h
  refine ⟨h.1, fun i hi => ?_⟩
  have := h.2 _ (List.getElem_mem hi)
  unfold okOp at this
  simpa using this
/-- What is known of a call that is read. -/
theorem op_at {w w1 : World} {A : Option Addr} {l : List Opn} (h : Kd.C kOpn w A l.length l) (hb : Below w.heap.size w w1) (i : Nat) (hi : i < l.length) :
    ∃ ad : Addr, A = some ad ∧ w1.cell? (ad.add (i * 3)) = some (.int .i64 l[i].f0) ∧ w1.cell? ⟨(ad.add (i * 3)).block, (ad.add (i * 3)).off + 1, none⟩ = some (.string l[i].f1) ∧ w1.cell? ⟨(ad.add (i * 3)).block, (ad.add (i * 3)).off + 2, none⟩ = some (.string l[i].f2) := by
  obtain ⟨ad, e, h0, h1, h2⟩ := at_T32 (Kd.C_below h hb) i (by omega) (by omega)
  rw [rdOp l i hi, Int.toNat_natCast] at h0 h1 h2
  exact ⟨ad, e, h0, h1, h2⟩
theorem op_in {w w1 : World} {ad : Addr} {l : List Opn} (h : Kd.C kOpn w (some ad) l.length l) (hb : Below w.heap.size w w1) (i : Nat) (hi : i < l.length) {o : Opn} (ho : l[i] = o) :
    w1.cell? (ad.add (i * 3)) = some (.int .i64 o.f0) ∧ w1.cell? ⟨(ad.add (i * 3)).block, (ad.add (i * 3)).off + 1, none⟩ = some (.string o.f1) ∧ w1.cell? ⟨(ad.add (i * 3)).block, (ad.add (i * 3)).off + 2, none⟩ = some (.string o.f2) := by
  obtain ⟨ad', e, h1⟩ := op_at h hb i hi
  cases e
  rw [← ho]
  exact h1
theorem Below.drewN' {B : Nat} {a w : World} (h : Below B a w) (q : Nat) : Below B a (w.drewN q) := ⟨h.os, h.tape, h.output, h.size, h.block⟩
theorem sz_of {s : ByteArray} (h : s.size ≤ 40) : sz s := by unfold sz maxLen; omega
theorem teq {p a : ByteArray} (h : p = a) : (p.toList == a.toList) = true := by rw [h]; simp
theorem teq' {p a : ByteArray} (h : p = a) : p.toList = a.toList := by rw [h]
theorem tne' {p a : ByteArray} (h : ¬ p = a) : ¬ p.toList = a.toList := fun e => h (bl_inj (by rw [← toList_bl, ← toList_bl]; exact e))
theorem tne {p a : ByteArray} (h : ¬ p = a) : (p.toList == a.toList) = false := by have := tne' h; simpa using this
theorem hasP_setS (S : List Pr) (p q : Pr) (on : Bool) : hasP (setS S p on) q = if q = p then on else hasP S q := by
  rw [Bool.eq_iff_iff, hasP_iff, mem_setS]
  split
  · rfl
  · rw [hasP_iff]
theorem hasP_forgetS (S : List Pr) (u a b : ByteArray) : hasP (forgetS S u 2) (a, b) = (hasP S (a, b) && (decide (u ≠ a) && decide (u ≠ b))) := by
  rw [Bool.eq_iff_iff, hasP_iff]
  unfold forgetS
  simp only [List.mem_filter, Bool.and_eq_true, decide_eq_true_eq, hasP_iff]
  constructor
  · rintro ⟨h1, h2, h3⟩
    exact ⟨h1, fun e => h2.elim (fun h => by omega) (fun h => h e.symm), fun e => h3.elim (fun h => by omega) (fun h => h e.symm)⟩
  · rintro ⟨h1, h2, h3⟩
    exact ⟨h1, .inr fun e => h2 e.symm, .inr fun e => h3 e.symm⟩
theorem othersS_len (S : List Pr) (s : Nat) (u : ByteArray) : (othersS S s u).length ≤ S.length := by
  unfold othersS
  refine Nat.le_trans (length_mergeN _) ?_
  rw [List.length_map]
  exact List.length_filter_le _ _
/-- A call that the law has read into a block of its own. -/
structure OpIn (w : World) (ob : Nat) (d : Int) (p q : ByteArray) : Prop where
  blk : w.heap[ob]? = some (.cells #[.int .i64 d, .string p, .string q] 32 (0, 0))
theorem OpIn.new (w : World) (d : Int) (p q : ByteArray) : OpIn (w.alloc (.cells #[.int .i64 d, .string p, .string q] 32)) w.heap.size d p q := ⟨heap_alloc_new w _⟩
theorem OpIn.cells {w : World} {ob : Nat} {d : Int} {p q : ByteArray} (h : OpIn w ob d p q) : w.cell? ⟨ob, 0, none⟩ = some (.int .i64 d) ∧ w.cell? ⟨ob, 1, none⟩ = some (.string p) ∧ w.cell? ⟨ob, 2, none⟩ = some (.string q) :=
  ⟨cell_of_block h.blk, cell_of_block h.blk, cell_of_block h.blk⟩
theorem OpIn.step {w w' : World} {ob : Nat} {d : Int} {p q : ByteArray} {fp fp' : List Nat} (h : OpIn w ob d p q ∧ ob ∉ fp) (hs : Step w w' fp fp') : OpIn w' ob d p q ∧ ob ∉ fp' := by
  have hlt : ob < w.heap.size := (Array.getElem?_eq_some_iff.1 h.1.blk).1
  exact ⟨⟨(hs.mods.block ob hlt h.2).trans h.1.blk⟩, fun hm => (hs.own _ hm).elim h.2 (fun h2 => by omega)⟩
theorem OpIn.drew {w : World} {ob : Nat} {d : Int} {p q : ByteArray} {fp : List Nat} (h : OpIn w ob d p q ∧ ob ∉ fp) : OpIn w.drew ob d p q ∧ ob ∉ fp := ⟨⟨h.1.blk⟩, h.2⟩
end Go.Proofs.Ytnpkjkhlbdkclaa
