/- The walk's laws at a store into a map, and a delete, over maps as lists. No condition. -/
import Derived.Test.YtnpkjkhlbdkclaaMem
import Derived.Maps.OwnSet
import Derived.Maps.RangeWalk
import Derived.OwnWalk
set_option linter.unusedSimpArgs false
set_option linter.unusedVariables false
set_option linter.unusedSectionVars false
namespace Go.Proofs.Ytnpkjkhlbdkclaa
open Go.RowKit Go.Maps Go.MapKept
open Go.ChangeMaps (setBlock)

/-- Block b alone has turned, and no block is new. -/
structure At (w w' : World) (b : Nat) : Prop where
  os : w'.os = w.os
  tape : w'.tape = w.tape
  output : w'.output = w.output
  size : w'.heap.size = w.heap.size
  block : ∀ i, i ≠ b → w'.heap[i]? = w.heap[i]?

theorem At.setBlock (w : World) (b : Nat) (o : Obj) : At w (setBlock w b o) b := ⟨rfl, rfl, rfl, size_setBlock w b o, fun i hi => heap_setBlock_ne o hi⟩
theorem At.mods {w w' : World} {b : Nat} (h : At w w' b) {a : World} {fp : List Nat} (hm : Mods a w fp) (hb : b ∈ fp ∨ a.heap.size ≤ b) : Mods a w' fp :=
  hm.trans (fp' := [b]) ⟨h.os, h.tape, h.output, by rw [h.size]; exact Nat.le_refl _, fun i _ hn => h.block i (by simpa using hn)⟩ (fun i hi => by simp at hi; subst hi; exact hb)
theorem At.cell {w w' : World} {b : Nat} (h : At w w' b) {p : Addr} (hp : p.block ≠ b) : w'.cell? p = w.cell? p := World.cell?_of_block (h.block p.block hp)
theorem At.frozen {w w' : World} {b : Nat} (h : At w w' b) {p : Addr} (hp : p.block ≠ b) : w'.frozen? p = w.frozen? p := World.frozen?_of_block (h.block p.block hp)

section
variable {α β : Type} [DecidableEq α] {P : Program} {k t e : TypeId} {ek : α → Value} {ev : β → Value} {b : Nat} {l : List (α × β)}

theorem wpList_mapUpdate_m (w : World) {ops : Array Oper} {rest : List Oper} {o : Oper} {a : Act} {Q : Exit → Act → World → Prop}
    (hg : o.guard = none) (m x v : Operand) (t : TypeId) (hop : o.op = Op.mapUpdate t m x v) (k e : TypeId) (K : Keyed P k) (ht : P.underlying t = some (.map k e)) (hinj : ∀ x y, ek x = ek y → x = y) (b : Nat)
    (hm : a.eval m = .map (some b)) (l : List (α × β)) (h : MapOf P k ek ev w b l) (hroom : l.length < maxLen) (key : α) (val : β) (hx : a.eval x = ek key) (hv : a.eval v = ev val) (hkey : ∃ kl, keyOf P k (ek key) = some kl)
    (hK : ∀ w', MapOf P k ek ev w' b (putM l key val) → At w w' b → wpList P ops Q rest (a.put o.dst undef) w') : wpList P ops Q (o :: rest) a w := by
  refine wpList_plain hg fun K' hK' => ?_
  obtain ⟨kl, hkl⟩ := hkey
  obtain ⟨ob, hrun, hm'⟩ := h.update K ht hinj hkl hroom val
  unfold Oper.wp
  simp [execOp, hop, hm, hx, hv, hrun, Result.andThen]
  exact hK' _ _ (hK _ hm' (At.setBlock _ _ _))

theorem wpList_delete_m (w : World) {ops : Array Oper} {rest : List Oper} {o : Oper} {a : Act} {Q : Exit → Act → World → Prop}
    (hg : o.guard = none) (m x : Operand) (t k : TypeId) (hop : o.op = Op.call { callee := Callee.builtin Builtin.delete, args := #[m, x], argTypes := #[t, k] })
    (e : TypeId) (K : Keyed P k) (ht : P.underlying t = some (.map k e)) (hinj : ∀ x y, ek x = ek y → x = y) (b : Nat)
    (hm : a.eval m = .map (some b)) (l : List (α × β)) (h : MapOf P k ek ev w b l) (key : α) (hx : a.eval x = ek key) (hkey : ∃ kl, keyOf P k (ek key) = some kl)
    (hK : ∀ w', MapOf P k ek ev w' b (delM l key) → At w w' b → wpList P ops Q rest (a.put o.dst (.tuple #[])) w') : wpList P ops Q (o :: rest) a w := by
  refine wpList_plain hg fun K' hK' => ?_
  obtain ⟨kl, hkl⟩ := hkey
  obtain ⟨ob, hrun, hm'⟩ := h.delete K ht hinj hkl o.type
  unfold Oper.wp
  simp [execOp, hop, resolve, invoke, builtin, hm, hx, hrun, Result.andThen]
  exact hK' _ _ (hK _ hm' (At.setBlock _ _ _))

theorem wpList_lookup_m (w : World) {ops : Array Oper} {rest : List Oper} {o : Oper} {a : Act} {Q : Exit → Act → World → Prop}
    (hg : o.guard = none) (m x : Operand) (t : TypeId) (hop : o.op = Op.lookup t m x false) (k e : TypeId) (K : Keyed P k) (ht : P.underlying t = some (.map k e)) (hinj : ∀ x y, ek x = ek y → x = y) (z : Value) (hz : ∀ w, (zeroValue e).run P w = .ok z w) (b : Nat)
    (hm : a.eval m = .map (some b)) (l : List (α × β)) (h : MapOf P k ek ev w b l) (key : α) (hx : a.eval x = ek key) (hkey : ∃ kl, keyOf P k (ek key) = some kl)
    (hK : wpList P ops Q rest (a.put o.dst (((look l key).map ev).getD z)) w) : wpList P ops Q (o :: rest) a w := by
  refine wpList_plain hg fun K' hK' => ?_
  obtain ⟨kl, hkl⟩ := hkey
  have hrun := h.lookup K ht hinj (hz w) hkl
  unfold Oper.wp
  simp [execOp, hop, hm, hx, hrun, Result.andThen]
  exact hK' _ _ hK
end

end Go.Proofs.Ytnpkjkhlbdkclaa
