/- The keys of an Index's maps. No condition. -/
import Derived.Test.YtnpkjkhlbdkclaaMem
import Derived.DeepKeys4
import Derived.StringKeys
set_option linter.unusedSimpArgs false
set_option linter.unusedVariables false
set_option linter.unusedSectionVars false
namespace Go.Proofs.Ytnpkjkhlbdkclaa
open Go.RowKit Go.Maps Go.MapKept Go.WideMaps

abbrev Pr := ByteArray × ByteArray
def pv (p : Pr) : Value := .agg #[.string p.1, .string p.2]
def mv (r : Nat) : Value := .map (some r)
def tv (_ : Unit) : Value := .bool true
def PT : TypeId := 48
def sz (s : ByteArray) : Prop := s.size ≤ maxLen

theorem laidOut : laidOutB Try.prog = true := by kernel_rfl
theorem rowPair : (48 : TypeId) < Try.prog.types.size := of_decide_eq_true (by kernel_rfl)
theorem widePair : (match Try.prog.underlying 48 with | some (.array _ _) | some (.struct _) => true | _ => false) = true := by kernel_rfl
theorem pairKeyed : Keyed Try.prog 48 := Keyed.of_law (deep_law_laid laidOut (m := 2) (by omega) rowPair (by kernel_rfl) widePair)
theorem stringKeyed : Keyed Try.prog 9 := string_keyed Try.underlying9
theorem pairKeyType : Try.prog.keyType 48 = true := by kernel_rfl
theorem pairCells : Try.prog.cellsOf 48 = 2 := by kernel_rfl
theorem stringCells : Try.prog.cellsOf 9 = 1 := by kernel_rfl
theorem typesSize : ∃ n, Try.prog.types.size = n + 2 := ⟨Try.prog.types.size - 2, by have := of_decide_eq_true (show decide (2 ≤ Try.prog.types.size) = true by kernel_rfl); omega⟩

theorem lits_string (d : Nat) (s : ByteArray) (h : s.size ≤ maxLen) : Try.prog.keyLits (d + 1) 9 [.string s] = some [.string s.data.toList] := by
  unfold Program.keyLits
  rw [Try.underlying9]
  simp only [h, if_true]
theorem lits_pair (d : Nat) (p : Pr) (h1 : p.1.size ≤ maxLen) (h2 : p.2.size ≤ maxLen) : Try.prog.keyLits (d + 2) 48 [.string p.1, .string p.2] = some [.string p.1.data.toList, .string p.2.data.toList] := by
  show Try.prog.keyLits (d + 1 + 1) _ _ = _
  unfold Program.keyLits
  rw [Try.underlying48]
  simp only [pairCells, stringCells, List.length_cons, List.length_nil, if_true]
  have e : List.range 2 = [0, 1] := rfl
  rw [e]
  simp only [List.mapM_cons, List.mapM_nil, Nat.zero_mul, Nat.one_mul, List.drop_zero, List.take_succ_cons, List.take_zero, List.drop_succ_cons]
  rw [lits_string d p.1 h1, lits_string d p.2 h2]
  rfl
theorem pairKey (p : Pr) (h1 : sz p.1) (h2 : sz p.2) : ∃ kl, keyOf Try.prog 48 (pv p) = some kl := by
  obtain ⟨n, hn⟩ := typesSize
  unfold sz at h1 h2
  have hl := lits_pair (n + 1) p h1 h2
  unfold keyOf pv
  rw [Try.underlying48]
  simp only [pairKeyType, Value.formed, Try.underlying48, pairCells, Value.cells, Bool.true_and, hn, hl]
  exact ⟨_, rfl⟩
theorem stringKey (s : ByteArray) (h : sz s) : ∃ kl, keyOf Try.prog 9 (.string s) = some kl := ⟨_, keyOf_string_mk Try.underlying9 h⟩
theorem pv_inj : ∀ x y : Pr, pv x = pv y → x = y := by
  rintro ⟨a, b⟩ ⟨c, d⟩ h
  simp [pv] at h
  simp [h]
theorem sv_inj : ∀ x y : ByteArray, Value.string x = Value.string y → x = y := fun x y h => by injection h

theorem zeroBool (w : World) : (zeroValue 4).run Try.prog w = .ok (.bool false) w := by kernel_rfl
theorem zeroInner (w : World) : (zeroValue 42).run Try.prog w = .ok (.map none) w := by kernel_rfl

end Go.Proofs.Ytnpkjkhlbdkclaa
