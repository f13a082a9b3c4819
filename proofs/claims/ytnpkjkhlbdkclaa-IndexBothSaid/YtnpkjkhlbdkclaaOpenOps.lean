/- The law's list of calls, as it comes in. No condition. -/
import Derived.Test.YtnpkjkhlbdkclaaOpenS
import Derived.Test.YtnpkjkhlbdkclaaPIndexScriptsx0
import Derived.OpenShut
set_option linter.unusedSimpArgs false
set_option linter.unusedVariables false
namespace Go.Proofs.Ytnpkjkhlbdkclaa
open Go.ChangeShapes Go.WideShapes Go.Deep Go.RowKit Go.Proofs.YtnpkjkhlbdkclaaW.PrintWords Go.Proofs.Ytnpkjkhlbdkclaa.PIndexScripts

section
variable {H : Type} {enc : TypeId × Value → H} {w : World} {base : Nat} {held : Bool}
theorem open_ops {a : Option Addr} {len cap : Nat} {d : DataW H} {p : List MemPlace} (h : DataW.Trod enc Try.prog w base (fun _ => true) held 22 (.slice a len cap) d p) :
    ∃ l : List S32, len = l.length ∧ l.length ≤ cap ∧ Kd.C k32 w a l.length l := by
  obtain ⟨fuel, hf⟩ := h
  rcases open_slice_fields Try.underlying22 Try.underlying32 (by kernel_rfl) (by kernel_rfl) hf with ⟨hcs, _⟩ | ⟨ad, n, c, m, D, Pl, hcs, _, hlc, hcm, hm, _, hel⟩
  · simp [Value.cells] at hcs
    obtain ⟨rfl, rfl, rfl⟩ := hcs
    exact ⟨[], rfl, Nat.le_refl _, rfl, by simp, fun h => absurd h (by simp)⟩
  · simp [Value.cells] at hcs
    obtain ⟨rfl, rfl, rfl⟩ := hcs
    simp only [if_true] at hm
    subst hm
    have hx : ∀ i, i < len → ∃ x : S32, w.cell? (ad.add (i * 3)) = some (.int .i64 x.f0) ∧ w.cell? (ad.add (i * 3 + 1)) = some (.string x.f1) ∧ w.cell? (ad.add (i * 3 + 2)) = some (.string x.f2) := by
      intro i hi
      obtain ⟨ys, nn, _, _, _, hf⟩ := hel i (by omega)
      obtain ⟨v0, y0, c0, _, t0⟩ := hf 0 _ rfl
      obtain ⟨v1, y1, c1, _, t1⟩ := hf 1 _ rfl
      obtain ⟨v2, y2, c2, _, t2⟩ := hf 2 _ rfl
      obtain ⟨n0, e0, _⟩ := DataW.trod_int Try.underlying3 t0
      obtain ⟨s1, e1, _⟩ := DataW.trod_string Try.underlying9 t1
      obtain ⟨s2, e2, _⟩ := DataW.trod_string Try.underlying9 t2
      simp at e0 e1 e2
      subst e0 e1 e2
      exact ⟨⟨n0, s1, s2⟩, c0, c1, c2⟩
    obtain ⟨l, hl, hp⟩ := list_of len hx
    refine ⟨l, hl.symm, by omega, rfl, by unfold maxLen at hcm; omega, fun _ => ⟨ad, rfl, fun j x hj => ?_⟩⟩
    obtain ⟨c0, c1, c2⟩ := hp j x hj
    refine ⟨[.int .i64 x.f0, .string x.f1, .string x.f2], rfl, k32_mk w x, fun i u hu => ?_⟩
    have e3 : k32.sz = 3 := rfl
    rw [e3]
    match i, hu with
    | 0, hu => simp at hu; subst hu; exact c0
    | 1, hu => simp at hu; subst hu; exact c1
    | 2, hu => simp at hu; subst hu; exact c2
end
end Go.Proofs.Ytnpkjkhlbdkclaa
