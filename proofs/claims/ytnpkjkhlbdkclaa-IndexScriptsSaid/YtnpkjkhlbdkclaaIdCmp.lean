/- ident.compare: how two names stand. No condition. -/
import Derived.Test.YtnpkjkhlbdkclaaOrd
import Derived.Test.YtnpkjkhlbdkclaaMem
import Derived.Test.YtnpkjkhlbdkclaaShelf
import Derived.Lib.Hide
import Derived.Outline
import Derived.WalkLawsBesides
import Derived.WalkSpells
set_option linter.unusedSimpArgs false
set_option linter.unusedVariables false
namespace Go.Proofs.Ytnpkjkhlbdkclaa
open Go.RowKit

/-- cmp.Or of two ints. -/
def orI (a b : Int) : Int := if a = 0 then b else a
theorem or_any (a b : Int) (g cap : Nat) (w : World) (h0 : w.cell? ⟨g, 0, none⟩ = some (.int .i64 a)) (h1 : w.cell? ⟨g, 1, none⟩ = some (.int .i64 b)) :
    Calls Try.prog 37 #[.slice (some ⟨g, 0, none⟩) 2 cap] w fun e w' => e = .returned (.int .i64 (orI a b)) ∧ w = w' := by
  by_cases ha : a = 0
  · subst ha
    by_cases hb : b = 0
    · subst hb
      go_enter Try.func37, Try.ntmps37
      go_wp2
      refine wp_loop_rounds 3 ?_
      rw [rounds_succ]
      go_wp2
      rw [rounds_succ]
      go_wp2
      rw [rounds_succ]
      go_wp2
      go_ret
      exact ⟨rfl, rfl⟩
    · have hb' : (b != 0) = true := by simpa using hb
      go_enter Try.func37, Try.ntmps37
      go_wp2
      refine wp_loop_rounds 2 ?_
      rw [rounds_succ]
      go_wp2
      rw [rounds_succ]
      go_wp2
      go_ret
      exact ⟨rfl, rfl⟩
  · have ha' : (a != 0) = true := by simpa using ha
    have e : orI a b = a := by unfold orI; rw [if_neg ha]
    have HE := Lib.hid e
    clear e ha
    go_enter Try.func37, Try.ntmps37
    go_wp2
    refine wp_loop_rounds 1 ?_
    rw [rounds_succ]
    go_wp2
    go_ret
    exact ⟨by rw [HE.out]; rfl, rfl⟩

/-- cmp.Compare of two ints. -/
def cmpI (a b : Int) : Int := if a < b then -1 else if b < a then 1 else 0
theorem cmp_any (a b : Int) (w : World) : Calls Try.prog 38 #[.int .i64 a, .int .i64 b] w fun e w' => e = .returned (.int .i64 (cmpI a b)) ∧ w = w' := by
  rcases Int.lt_trichotomy a b with h | h | h
  · have e : cmpI a b = -1 := by unfold cmpI; rw [if_pos h]
    have HE := Lib.hid e
    clear e
    go_enter Try.func38, Try.ntmps38
    go_wp2
    go_ret
    exact ⟨by rw [HE.out]; rfl, rfl⟩
  · subst h
    have e : cmpI a a = 0 := by unfold cmpI; simp
    have HE := Lib.hid e
    clear e
    go_enter Try.func38, Try.ntmps38
    go_wp2
    go_ret
    exact ⟨by rw [HE.out]; rfl, rfl⟩
  · have e : cmpI a b = 1 := by unfold cmpI; rw [if_neg (by omega), if_pos h]
    have hn : ¬ a < b := by omega
    have HE := Lib.hid e
    clear e
    go_enter Try.func38, Try.ntmps38
    go_wp2
    go_ret
    exact ⟨by rw [HE.out]; rfl, rfl⟩

/-- How two names stand: below 0, 0, above 0. -/
def cmpN (a b : ByteArray) : Int := orI (cmpI a.size b.size) (Lib.compareBytes a.data.toList b.data.toList)

theorem compare_any (a b : ByteArray) (w : World) : Calls Try.prog 32 #[.string a, .string b] w fun e w' => e = .returned (.int .i64 (cmpN a b)) ∧ ∃ o, w' = w.alloc o := by
  go_enter Try.func32, Try.ntmps32
  go_wp2_with fail
  refine (cmp_any _ _ _).mono ?_
  rintro e w' ⟨rfl, rfl⟩
  go_wp2_with fail
  refine (Try.strings_Compare _ _ _).mono ?_
  rintro e w' ⟨rfl, rfl⟩
  go_wp2_with fail
  refine (or_any (cmpI a.size b.size) (Lib.compareBytes a.data.toList b.data.toList) _ _ _ ?_ ?_).mono ?_
  · simp [go_sem]
  · simp [go_sem]
  rintro e w' ⟨rfl, rfl⟩
  go_wp2_with fail
  go_ret
  exact ⟨rfl, _, rfl⟩

theorem cmpB : ∀ (l m : List UInt8), (Lib.compareBytes l m < 0 ↔ l < m) ∧ (Lib.compareBytes l m = 0 ↔ l = m)
  | [], [] => by simp [Lib.compareBytes]
  | [], b :: m => by simp [Lib.compareBytes]
  | a :: l, [] => by simp [Lib.compareBytes]
  | a :: l, b :: m => by
    obtain ⟨h1, h2⟩ := cmpB l m
    unfold Lib.compareBytes
    rw [List.cons_lt_cons_iff]
    by_cases hab : a < b
    · have hne : a ≠ b := fun e => by subst e; exact absurd hab (UInt8.lt_irrefl _)
      simp [hab, hne]
    · by_cases hba : b < a
      · have hne : a ≠ b := fun e => by subst e; exact absurd hba (UInt8.lt_irrefl _)
        simp [hab, hba, hne]
      · have he : a = b := by
          have h3 := UInt8.not_lt.1 hab
          have h4 := UInt8.not_lt.1 hba
          exact UInt8.le_antisymm h4 h3
        subst he
        simp [h1, h2]
theorem cmpN_lt (a b : ByteArray) : decide (cmpN a b < 0) = ltN a b := by
  have h := cmpB (bl a) (bl b)
  unfold bl at h
  rw [Bool.eq_iff_iff, ltN_iff, decide_eq_true_eq]
  unfold cmpN orI cmpI bl
  rcases Nat.lt_trichotomy a.size b.size with h1 | h1 | h1
  · have : (a.size : Int) < b.size := by omega
    simp [this, h1]
  · have : ¬ (a.size : Int) < b.size := by omega
    have h2 : ¬ (b.size : Int) < a.size := by omega
    simp [this, h2, h1, h.1]
  · have h3 : (b.size : Int) < a.size := by omega
    have : ¬ (a.size : Int) < b.size := by omega
    have h4 : ¬ a.size < b.size := by omega
    have h5 : ¬ a.size = b.size := by omega
    simp [this, h3, h4, h5]

end Go.Proofs.Ytnpkjkhlbdkclaa
