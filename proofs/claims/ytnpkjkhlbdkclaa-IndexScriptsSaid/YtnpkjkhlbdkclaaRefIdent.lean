/- The document's own Less, Merge and Same of names, as the print has them: what they tell. No program. Condition: lists of a length that may be. -/
import Derived.Test.YtnpkjkhlbdkclaaPIndexScriptsx13
import Derived.Test.YtnpkjkhlbdkclaaPIndexScriptsx17
import Derived.Test.YtnpkjkhlbdkclaaOrd
set_option linter.unusedSimpArgs false
set_option linter.unusedVariables false
namespace Go.Proofs.Ytnpkjkhlbdkclaa
open Go.RowKit Go.Proofs.YtnpkjkhlbdkclaaW.PrintWords Go.Proofs.Ytnpkjkhlbdkclaa.PIndexScripts

theorem toList_bl (s : ByteArray) : s.toList = bl s := by unfold bl; exact ByteArray.toList_eq s
theorem bytesLess_lt : ∀ (a b : List UInt8), Op.bytesLess a b = decide (a < b)
  | _, [] => by simp [Op.bytesLess]
  | [], _ :: _ => by simp [Op.bytesLess]
  | a :: x, b :: y => by
    unfold Op.bytesLess
    rw [bytesLess_lt x y, Bool.eq_iff_iff]
    simp [List.cons_lt_cons_iff]
theorem less_eq (a b : ByteArray) : rollcallref03_Less.f a b = some (ltN a b) := by
  unfold rollcallref03_Less.f ltN
  rw [toList_bl, toList_bl, bytesLess_lt]
  by_cases h1 : a.size < b.size
  · have : (a.size : Int) < b.size := by omega
    simp [h1, this]
  · have h1' : ¬ (a.size : Int) < b.size := by omega
    rw [if_neg h1']
    by_cases h2 : a.size = b.size
    · have : (a.size : Int) = b.size := by omega
      rw [if_pos this]
      simp [h1, h2]
    · have : ¬ (a.size : Int) = b.size := by omega
      rw [if_neg this]
      simp [h1, h2]
theorem rdOf_get {l : List ByteArray} {i : Nat} (h : i < l.length) : rdOf ByteArray.empty l (i : Int) = l[i] := by
  unfold rdOf
  simp [h]
theorem wrap_nat {i : Nat} (h : i < 1000000) : wrap64 ((i : Int) + 1) = ((i + 1 : Nat) : Int) := by unfold wrap64; omega

theorem put_from (s : ByteArray) (l : List ByteArray) (hl : l.length ≤ 100000) : ∀ (d k i : Nat), i + d = l.length → d < k → rollcallref03_put.l0 k l s (i : Int) = some (l.take i ++ putN (l.drop i) s)
  | 0, k, i, hd, hk => by
    obtain ⟨k, rfl⟩ : ∃ m, k = m + 1 := ⟨k - 1, by omega⟩
    have hi : i = l.length := by omega
    subst hi
    simp only [rollcallref03_put.l0]
    rw [if_neg (by omega)]
    simp only [Option.bind_some, Int.toNat_natCast, List.take_length, List.drop_length, List.nil_append, List.length_nil, Nat.zero_add, List.append_nil]
    rw [if_pos (by omega), if_pos (by omega), if_pos (by omega), if_pos (by omega), if_pos (by rw [List.length_append, List.length_singleton]; omega)]
    rfl
  | d + 1, k, i, hd, hk => by
    obtain ⟨k, rfl⟩ : ∃ m, k = m + 1 := ⟨k - 1, by omega⟩
    have hi : i < l.length := by omega
    have ih := put_from s l hl d k (i + 1) (by omega) (by omega)
    simp only [rollcallref03_put.l0]
    rw [if_pos (by omega), if_pos (by omega), less_eq]
    simp only [Option.bind_some]
    rw [rdOf_get hi, wrap_nat (by omega), ih]
    have hdrop : l.drop i = l[i] :: l.drop (i + 1) := by rw [List.drop_eq_getElem_cons hi]
    rw [hdrop]
    by_cases h1 : ltN l[i] s = true
    · rw [if_pos h1]
      conv => rhs; unfold putN
      rw [if_pos h1, List.take_succ_eq_append_getElem hi, List.append_assoc]
      rfl
    · rw [if_neg h1]
      conv => rhs; unfold putN
      rw [if_neg h1]
      by_cases h2 : l[i] = s
      · rw [if_pos (by rw [h2]), if_pos h2, ← hdrop, List.take_append_drop]
      · have h2' : ¬ l[i].toList = s.toList := fun e => h2 (bl_inj (by rw [← toList_bl, ← toList_bl]; exact e))
        rw [if_neg h2', if_neg h2]
        simp only [Int.toNat_natCast, List.nil_append, List.length_nil, Nat.zero_add]
        have ht : (l.take i).length ≤ i := List.length_take_le _ _
        have hd2 : (l.drop i).length ≤ l.length := by rw [List.length_drop]; omega
        rw [if_pos (by omega), if_pos (by omega), if_pos (by omega), if_pos (by rw [List.length_append, List.length_singleton]; omega), List.append_assoc, hdrop]
        rfl
theorem put_eq (s : ByteArray) (l : List ByteArray) (hl : l.length ≤ 100000) (k : Nat) (hk : l.length < k) : rollcallref03_put.f k l s = some (putN l s) := by
  unfold rollcallref03_put.f
  have := put_from s l hl l.length k 0 (by omega) hk
  simpa using this

theorem merge1_from (l1 : List ByteArray) (hl : l1.length ≤ 40000) : ∀ (d k i : Nat) (acc : List ByteArray), i + d = l1.length → acc.length ≤ 40000 + i → 100000 + d < k → rollcallref03_Merge.l1 k l1 acc (i : Int) = some ((l1.drop i).foldl putN acc)
  | 0, k, i, acc, hd, ha, hk => by
    obtain ⟨k, rfl⟩ : ∃ m, k = m + 1 := ⟨k - 1, by omega⟩
    have hi : i = l1.length := by omega
    subst hi
    simp only [rollcallref03_Merge.l1]
    rw [if_neg (by omega), List.drop_length]
    rfl
  | d + 1, k, i, acc, hd, ha, hk => by
    obtain ⟨k, rfl⟩ : ∃ m, k = m + 1 := ⟨k - 1, by omega⟩
    have hi : i < l1.length := by omega
    have hlp := length_putN acc l1[i]
    have ih := merge1_from l1 hl d k (i + 1) (putN acc l1[i]) (by omega) (by omega) (by omega)
    simp only [rollcallref03_Merge.l1]
    rw [if_pos (by omega), if_pos (by omega), rdOf_get hi, put_eq _ _ (by omega) _ (by omega)]
    simp only [Option.bind_some]
    rw [wrap_nat (by omega), ih, List.drop_eq_getElem_cons hi]
    rfl
theorem merge0_from (l0 l1 : List ByteArray) (hl0 : l0.length ≤ 20000) (hl : l1.length ≤ 20000) : ∀ (d k i : Nat) (acc : List ByteArray), i + d = l0.length → acc.length ≤ i → 120001 + d < k → rollcallref03_Merge.l0 k l0 l1 acc (i : Int) = some (l1.foldl putN ((l0.drop i).foldl putN acc))
  | 0, k, i, acc, hd, ha, hk => by
    obtain ⟨k, rfl⟩ : ∃ m, k = m + 1 := ⟨k - 1, by omega⟩
    have hi : i = l0.length := by omega
    subst hi
    simp only [rollcallref03_Merge.l0]
    rw [if_neg (by omega), List.drop_length]
    have := merge1_from l1 (by omega) l1.length k 0 acc (by omega) (by omega) (by omega)
    simpa using this
  | d + 1, k, i, acc, hd, ha, hk => by
    obtain ⟨k, rfl⟩ : ∃ m, k = m + 1 := ⟨k - 1, by omega⟩
    have hi : i < l0.length := by omega
    have hlp := length_putN acc l0[i]
    have ih := merge0_from l0 l1 hl0 hl d k (i + 1) (putN acc l0[i]) (by omega) (by omega) (by omega)
    simp only [rollcallref03_Merge.l0]
    rw [if_pos (by omega), if_pos (by omega), rdOf_get hi, put_eq _ _ (by omega) _ (by omega)]
    simp only [Option.bind_some]
    rw [wrap_nat (by omega), ih, List.drop_eq_getElem_cons hi]
    rfl
/-- The document's Merge. -/
theorem refMerge_eq (l0 l1 : List ByteArray) (hl0 : l0.length ≤ 20000) (hl : l1.length ≤ 20000) : rollcallref03_Merge.f 200000 l0 l1 = some (mergeN (l0 ++ l1)) := by
  unfold rollcallref03_Merge.f
  have := merge0_from l0 l1 hl0 hl l0.length 200000 0 [] (by omega) (by simp) (by omega)
  rw [mergeN_append]
  simpa [mergeN] using this

def sameL (a b : List ByteArray) : Bool := decide (a = b)
theorem same_from (l0 l1 : List ByteArray) (h : l0.length = l1.length) (hl : l0.length ≤ 100000) : ∀ (d k i : Nat), i + d = l0.length → d < k → rollcallref03_Same.l0 k l0 l1 (i : Int) = some (sameL (l0.drop i) (l1.drop i))
  | 0, k, i, hd, hk => by
    obtain ⟨k, rfl⟩ : ∃ m, k = m + 1 := ⟨k - 1, by omega⟩
    have hi : i = l0.length := by omega
    subst hi
    simp only [rollcallref03_Same.l0]
    rw [if_neg (by omega), List.drop_length, h, List.drop_length]
    rfl
  | d + 1, k, i, hd, hk => by
    obtain ⟨k, rfl⟩ : ∃ m, k = m + 1 := ⟨k - 1, by omega⟩
    have hi : i < l0.length := by omega
    have hi1 : i < l1.length := by omega
    have ih := same_from l0 l1 h hl d k (i + 1) (by omega) (by omega)
    simp only [rollcallref03_Same.l0]
    rw [if_pos (by omega), if_pos (by omega), if_pos (by omega), rdOf_get hi, rdOf_get hi1, wrap_nat (by omega), ih, List.drop_eq_getElem_cons hi, List.drop_eq_getElem_cons hi1]
    unfold sameL
    by_cases e : l0[i] = l1[i]
    · rw [if_pos (by rw [e]), e]
      generalize l0.drop (i + 1) = r0
      generalize l1.drop (i + 1) = r1
      simp
    · have e' : ¬ l0[i].toList = l1[i].toList := fun h2 => e (bl_inj (by rw [← toList_bl, ← toList_bl]; exact h2))
      rw [if_neg e']
      generalize l0.drop (i + 1) = r0
      generalize l1.drop (i + 1) = r1
      simp [e]
theorem refSame_eq (l0 l1 : List ByteArray) (hl : l0.length ≤ 100000) : rollcallref03_Same.f 200000 l0 l1 = some (sameL l0 l1) := by
  unfold rollcallref03_Same.f
  by_cases h : l0.length = l1.length
  · rw [if_pos (by omega)]
    have := same_from l0 l1 h hl l0.length 200000 0 (by omega) (by omega)
    simpa using this
  · rw [if_neg (by omega)]
    unfold sameL
    have : ¬ l0 = l1 := fun e => h (by rw [e])
    simp [this]
end Go.Proofs.Ytnpkjkhlbdkclaa
