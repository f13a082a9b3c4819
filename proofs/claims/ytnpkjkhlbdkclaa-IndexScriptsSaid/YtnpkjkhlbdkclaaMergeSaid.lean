/- What ident.Merge is said to do. -/
import Derived.Test.YtnpkjkhlbdkclaaOrd
import Derived.Test.YtnpkjkhlbdkclaaProg
import Derived.Test.YtnpkjkhlbdkclaaRd
import Derived.Test.YtnpkjkhlbdkclaaWWords
set_option linter.unusedVariables false
namespace Go.Proofs.Ytnpkjkhlbdkclaa
open Go.RowKit Go.Proofs.YtnpkjkhlbdkclaaW.PrintWords

/-- ident.Merge of any two lists of names. -/
def MergeSaid : Prop := ∀ (A0 : Option Addr) (c0 : Nat) (l0 : List ByteArray) (A1 : Option Addr) (c1 : Nat) (l1 : List ByteArray) (w : World),
  Kd.C Kd.string w A0 l0.length l0 → l0.length ≤ c0 → Kd.C Kd.string w A1 l1.length l1 → l1.length ≤ c1 → (l0.length + l1.length) * 16 ≤ 140737488351232 →
  Calls Try.prog 29 #[.slice A0 l0.length c0, .slice A1 l1.length c1] w fun e w' => ∃ v, e = .returned v ∧ Kd.R Kd.string 9 w' w.heap.size (fun _ => True) v (mergeN (l0 ++ l1)) ∧ Below w.heap.size w w'

/-- A slice of texts that is read has cells of texts. -/
theorem Kd.str_reads {w : World} {A : Option Addr} {n : Nat} {l : List ByteArray} (h : Kd.C Kd.string w A n l) : Reads w w.heap.size 1 A n (l.map Value.string) := by
  obtain ⟨h1, h2, h3⟩ := h
  refine ⟨by simp [h1], fun hn => ?_⟩
  obtain ⟨ad, e, hc⟩ := h3 hn
  have hcell : ∀ j p, l[j]? = some p → w.cell? (ad.add j) = some (.string p) := fun j p hp => by
    obtain ⟨c, hl, hr, hcc⟩ := hc j p hp
    have hr' : c = [.string p] := hr
    subst hr'
    have := hcc 0 (.string p) rfl
    have e1 : Kd.string.sz = 1 := rfl
    simpa [e1] using this
  refine ⟨ad, e, ?_, fun j u hu => ?_⟩
  · have h0 : 0 < l.length := by omega
    have := hcell 0 _ (List.getElem?_eq_getElem h0)
    have hb : (ad.add 0).block = ad.block := block_of_add ad 0
    have h4 : ∃ o, w.heap[(ad.add 0).block]? = some o := by
      unfold World.cell? at this
      cases hh : w.heap[(ad.add 0).block]? with
      | none => rw [hh] at this; cases this
      | some o => exact ⟨o, rfl⟩
    obtain ⟨o, ho⟩ := h4
    rw [hb] at ho
    exact (Array.getElem?_eq_some_iff.1 ho).1
  · rw [List.getElem?_map] at hu
    cases hl : l[j]? with
    | none => rw [hl] at hu; cases hu
    | some p =>
      rw [hl] at hu
      simp at hu
      subst hu
      exact hcell j p hl
theorem Kd.str_own {w : World} {base : Nat} {v : Value} {l : List ByteArray} (h : Kd.R Kd.string 9 w base (fun _ => True) v l) : w.ownsRow base 9 1 v l.length (l.map Value.string) := by
  obtain ⟨_, inner, ho, hl, hr⟩ := h
  have e1 : Kd.string.sz = 1 := rfl
  rw [e1] at ho hl hr
  have : inner = l.map Value.string := by
    apply List.ext_getElem?
    intro i
    rw [List.getElem?_map]
    rcases Nat.lt_or_ge i l.length with hi | hi
    · have h2 : inner[i]? = some inner[i] := List.getElem?_eq_getElem (by omega)
      have h3 : [inner[i]'(by omega)] = [Value.string l[i]] := by
        have := hr i _ (List.getElem?_eq_getElem hi)
        have h4 : (inner.drop (i * 1)).take 1 = [inner[i]'(by omega)] := by
          rw [Nat.mul_one, List.drop_eq_getElem_cons (by omega)]
          rfl
        rw [h4] at this
        exact this
      rw [h2, List.getElem?_eq_getElem hi]
      injection h3 with h5
      rw [h5]
      rfl
    · rw [List.getElem?_eq_none (by omega), List.getElem?_eq_none hi]
      rfl
  subst this
  exact ho
theorem Kd.str_of_own {w : World} {base : Nat} {v : Value} {l : List ByteArray} (h : w.ownsRow base 9 1 v l.length (l.map Value.string)) : Kd.R Kd.string 9 w base (fun _ => True) v l := by
  refine ⟨fun _ _ => trivial, l.map Value.string, h, by simp [show Kd.string.sz = 1 from rfl], fun j p hp => ?_⟩
  have e1 : Kd.string.sz = 1 := rfl
  rw [e1, Nat.mul_one]
  have hj : j < l.length := (List.getElem?_eq_some_iff.1 hp).1
  have : ((l.map Value.string).drop j).take 1 = [Value.string p] := by
    rw [List.drop_eq_getElem_cons (by simpa using hj)]
    simp
    rw [List.getElem?_eq_getElem hj] at hp
    exact Option.some.inj hp
  rw [this]
  rfl
end Go.Proofs.Ytnpkjkhlbdkclaa
