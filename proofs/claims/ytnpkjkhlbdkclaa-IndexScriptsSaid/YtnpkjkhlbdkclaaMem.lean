/- Maps as lists of entries: what each operation on a map does to the list. No condition. -/
import Derived.Test.YtnpkjkhlbdkclaaProg
import Derived.Maps.Keyed
import Derived.Maps.RangeRun
import Derived.Below
import Derived.MapViews
import Derived.WalkKit
import Derived.Deep.Draws
set_option linter.unusedSimpArgs false
set_option linter.unusedVariables false
set_option linter.unusedSectionVars false
namespace Go.Proofs.Ytnpkjkhlbdkclaa
open Go.RowKit Go.Maps Go.MapKept
open Go.ChangeMaps (setBlock)

/-! ### what a call may have turned -/
/-- Only the blocks of fp, and new ones, may have turned. -/
structure Mods (w w' : World) (fp : List Nat) : Prop where
  os : w'.os = w.os
  tape : w'.tape = w.tape
  output : w'.output = w.output
  size : w.heap.size ≤ w'.heap.size
  block : ∀ i, i < w.heap.size → i ∉ fp → w'.heap[i]? = w.heap[i]?

theorem Mods.refl (w : World) (fp : List Nat) : Mods w w fp := ⟨rfl, rfl, rfl, Nat.le_refl _, fun _ _ _ => rfl⟩
theorem Mods.trans {a b c : World} {fp fp' : List Nat} (h : Mods a b fp) (k : Mods b c fp') (hs : ∀ i ∈ fp', i ∈ fp ∨ a.heap.size ≤ i) : Mods a c fp :=
  ⟨k.os.trans h.os, k.tape.trans h.tape, k.output.trans h.output, Nat.le_trans h.size k.size, fun i hi hn => (k.block i (Nat.lt_of_lt_of_le hi h.size) (fun hm => by
    rcases hs i hm with h1 | h1
    · exact hn h1
    · omega)).trans (h.block i hi hn)⟩
theorem Mods.mono {a b : World} {fp fp' : List Nat} (h : Mods a b fp) (hs : ∀ i ∈ fp, i ∈ fp' ∨ a.heap.size ≤ i) : Mods a b fp' :=
  ⟨h.os, h.tape, h.output, h.size, fun i hi hn => h.block i hi (fun hm => by
    rcases hs i hm with h1 | h1
    · exact hn h1
    · omega)⟩
theorem Mods.drew {a b : World} {fp : List Nat} (h : Mods a b fp) : Mods a b.drew fp := ⟨h.os, h.tape, h.output, h.size, h.block⟩
theorem Mods.drewN {a b : World} {fp : List Nat} (h : Mods a b fp) (n : Nat) : Mods a (b.drewN n) fp := ⟨h.os, h.tape, h.output, h.size, h.block⟩
theorem Mods.alloc {a b : World} {fp : List Nat} (h : Mods a b fp) (o : Obj) : Mods a (b.alloc o) fp :=
  ⟨h.os, h.tape, h.output, Nat.le_trans h.size (by simp), fun i hi hn => (Below.heap_alloc b o i (Nat.lt_of_lt_of_le hi h.size)).trans (h.block i hi hn)⟩
theorem Mods.setCell {a b : World} {fp : List Nat} (h : Mods a b fp) {p : Addr} (hp : p.block ∈ fp ∨ a.heap.size ≤ p.block) (u : Value) : Mods a (b.setCell p u) fp :=
  ⟨h.os, h.tape, h.output, by simpa [World.setCell] using h.size, fun i hi hn => (Below.heap_setCell b p u i (by
    rintro rfl
    rcases hp with h1 | h1
    · exact hn h1
    · omega)).trans (h.block i hi hn)⟩
theorem Mods.of_below {a b : World} (h : Below a.heap.size a b) (fp : List Nat) : Mods a b fp := ⟨h.os, h.tape, h.output, h.size, fun i hi _ => h.block i hi⟩
theorem Mods.below {a b : World} {fp : List Nat} {B : Nat} (h : Mods a b fp) (hB : B ≤ a.heap.size) (hf : ∀ i ∈ fp, B ≤ i) : Below B a b :=
  ⟨h.os, h.tape, h.output, h.size, fun i hi => h.block i (by omega) (fun hm => by have := hf i hm; omega)⟩
theorem Mods.of_grown {a b : World} {row : Option Nat} (h : a.grownBy b row) {fp : List Nat} (hr : ∀ k, row = some k → k ∈ fp ∨ a.heap.size ≤ k) : Mods a b fp :=
  ⟨h.os, h.tape, h.output, h.size, fun i hi hn => h.block i hi (fun e => by
    rcases hr i e.symm with h1 | h1
    · exact hn h1
    · omega)⟩
theorem Mods.setBlock {a b : World} {fp : List Nat} (h : Mods a b fp) {r : Nat} (hr : r ∈ fp ∨ a.heap.size ≤ r) (o : Obj) : Mods a (setBlock b r o) fp :=
  ⟨h.os, h.tape, h.output, by simpa [ChangeMaps.setBlock] using h.size, fun i hi hn => by
    have hne : r ≠ i := by
      rintro rfl
      rcases hr with h1 | h1
      · exact hn h1
      · omega
    rw [← h.block i hi hn]
    simp [ChangeMaps.setBlock, Array.getElem?_setIfInBounds, hne]⟩

theorem heap_setBlock_ne {w : World} {r i : Nat} (o : Obj) (h : i ≠ r) : (setBlock w r o).heap[i]? = w.heap[i]? := by
  have h' : ¬ r = i := fun e => h e.symm
  simp [ChangeMaps.setBlock, Array.getElem?_setIfInBounds, h']
theorem heap_setBlock_eq {w : World} {r : Nat} (o : Obj) (h : r < w.heap.size) : (setBlock w r o).heap[r]? = some o := by
  simp [ChangeMaps.setBlock, Array.getElem?_setIfInBounds, h]
theorem size_setBlock (w : World) (r : Nat) (o : Obj) : (setBlock w r o).heap.size = w.heap.size := by simp [ChangeMaps.setBlock]

/-! ### a map as a list -/
section
variable {α β : Type} [DecidableEq α]

def look (l : List (α × β)) (a : α) : Option β := (l.find? (fun p => decide (p.1 = a))).map (·.2)
def putM (l : List (α × β)) (a : α) (v : β) : List (α × β) :=
  if (look l a).isSome then l.map (fun p => if p.1 = a then (a, v) else p) else l ++ [(a, v)]
def delM (l : List (α × β)) (a : α) : List (α × β) := l.filter (fun p => !decide (p.1 = a))

/-- Block b holds just the entries l. -/
def MapOf (P : Program) (k : TypeId) (ek : α → Value) (ev : β → Value) (w : World) (b : Nat) (l : List (α × β)) : Prop :=
  ∃ es clock, w.heap[b]? = some (.map es clock) ∧ Stamped es clock ∧ es.toList.map (fun e => (e.key, e.val)) = l.map (fun p => (ek p.1, ev p.2)) ∧
    (∀ p ∈ l, ∃ kl, keyOf P k (ek p.1) = some kl) ∧ (l.map (·.1)).Nodup ∧ l.length ≤ maxLen

variable {P : Program} {k t e : TypeId} {ek : α → Value} {ev : β → Value} {w w' : World} {b : Nat} {l : List (α × β)}

theorem MapOf.frame (h : MapOf P k ek ev w b l) (hb : w'.heap[b]? = w.heap[b]?) : MapOf P k ek ev w' b l := by
  obtain ⟨es, c, h1, h2⟩ := h
  exact ⟨es, c, hb.trans h1, h2⟩
theorem MapOf.lt (h : MapOf P k ek ev w b l) : b < w.heap.size := by
  obtain ⟨es, c, h1, _⟩ := h
  exact (Array.getElem?_eq_some_iff.1 h1).1
theorem MapOf.nodup (h : MapOf P k ek ev w b l) : (l.map (·.1)).Nodup := by
  obtain ⟨es, c, _, _, _, _, h, _⟩ := h
  exact h
theorem MapOf.made (w : World) : MapOf P k ek ev (w.alloc (.map #[] 0)) w.heap.size ([] : List (α × β)) :=
  ⟨#[], 0, (MapKept.heap_alloc w _).1, stamped_empty 0, by simp, by simp, by simp, by simp⟩

theorem entries_at {es : Array MapEntry} (h : es.toList.map (fun e => (e.key, e.val)) = l.map (fun p => (ek p.1, ev p.2))) {j : Nat} {x : MapEntry} (hj : es.toList[j]? = some x) :
    ∃ p, l[j]? = some p ∧ x.key = ek p.1 ∧ x.val = ev p.2 := by
  have h1 := congrArg (·[j]?) h
  simp only [List.getElem?_map, hj, Option.map_some] at h1
  cases hp : l[j]? with
  | none => simp [hp] at h1
  | some p =>
    simp only [hp, Option.map_some, Option.some.injEq, Prod.mk.injEq] at h1
    exact ⟨p, rfl, h1.1, h1.2⟩
theorem entries_mem {es : Array MapEntry} (h : es.toList.map (fun e => (e.key, e.val)) = l.map (fun p => (ek p.1, ev p.2))) {x : MapEntry} (hx : x ∈ es.toList) :
    ∃ p ∈ l, x.key = ek p.1 ∧ x.val = ev p.2 := by
  obtain ⟨j, hj⟩ := List.mem_iff_getElem?.1 hx
  obtain ⟨p, hp, h1⟩ := entries_at h hj
  exact ⟨p, List.mem_of_getElem? hp, h1⟩
theorem entries_of {es : Array MapEntry} (h : es.toList.map (fun e => (e.key, e.val)) = l.map (fun p => (ek p.1, ev p.2))) {p : α × β} (hp : p ∈ l) :
    ∃ x ∈ es.toList, x.key = ek p.1 ∧ x.val = ev p.2 := by
  have h1 : (ek p.1, ev p.2) ∈ es.toList.map (fun e => (e.key, e.val)) := by rw [h]; exact List.mem_map.2 ⟨p, hp, rfl⟩
  obtain ⟨x, hx, e⟩ := List.mem_map.1 h1
  simp only [Prod.mk.injEq] at e
  exact ⟨x, hx, e.1, e.2⟩

theorem look_none {a : α} : look l a = none ↔ ∀ p ∈ l, p.1 ≠ a := by
  unfold look
  simp
theorem look_at (hn : (l.map (·.1)).Nodup) {j : Nat} {p : α × β} (hj : l[j]? = some p) : look l p.1 = some p.2 := by
  induction l generalizing j with
  | nil => simp at hj
  | cons x r ih =>
    rw [List.map_cons, List.nodup_cons] at hn
    unfold look
    cases j with
    | zero =>
      simp only [List.getElem?_cons_zero, Option.some.injEq] at hj
      subst hj
      simp
    | succ j =>
      simp only [List.getElem?_cons_succ] at hj
      have hne : ¬ x.1 = p.1 := fun e => hn.1 (by rw [e]; exact List.mem_map.2 ⟨p, List.mem_of_getElem? hj, rfl⟩)
      have := ih hn.2 hj
      unfold look at this
      simp [List.find?_cons, hne, this]
theorem look_mem {a : α} {v : β} (h : look l a = some v) : (a, v) ∈ l := by
  unfold look at h
  simp only [Option.map_eq_some_iff] at h
  obtain ⟨p, hp, rfl⟩ := h
  have h1 := List.find?_some hp
  have h2 := List.mem_of_find?_eq_some hp
  simp only [decide_eq_true_eq] at h1
  rw [← h1]
  exact h2
theorem mem_look (hn : (l.map (·.1)).Nodup) {p : α × β} (hp : p ∈ l) : look l p.1 = some p.2 := by
  obtain ⟨j, hj⟩ := List.mem_iff_getElem?.1 hp
  exact look_at hn hj

/-- The key looked for: at none, or at place j. -/
theorem MapOf.find (h : MapOf P k ek ev w b l) (K : Keyed P k) (hinj : ∀ x y, ek x = ek y → x = y) {a : α} {kl : Lit} (hkey : keyOf P k (ek a) = some kl) :
    ∃ es clock, w.heap[b]? = some (.map es clock) ∧ Stamped es clock ∧ es.toList.map (fun e => (e.key, e.val)) = l.map (fun p => (ek p.1, ev p.2)) ∧
    (((Instr.findKey k (ek a) es.toList).run P w = .ok none w ∧ look l a = none ∧ ∀ x ∈ es.toList, x.key ≠ ek a) ∨
     ∃ j x p, (Instr.findKey k (ek a) es.toList).run P w = .ok (some (j, x.val)) w ∧ es.toList[j]? = some x ∧ x.key = ek a ∧ l[j]? = some p ∧ p.1 = a ∧ x.val = ev p.2 ∧ look l a = some p.2) := by
  obtain ⟨es, c, hb, hst, hes, hrd, hnd, hle⟩ := h
  refine ⟨es, c, hb, hst, hes, ?_⟩
  have hk : ∀ x ∈ es.toList, ∃ l, keyOf P k x.key = some l := fun x hx => by
    obtain ⟨p, hp, h1, _⟩ := entries_mem hes hx
    rw [h1]
    exact hrd p hp
  rcases K.find w hkey es.toList hk with ⟨h1, h2⟩ | ⟨j, e0, h1, h2, h3⟩
  · refine .inl ⟨h1, look_none.2 (fun p hp e => ?_), h2⟩
    obtain ⟨x, hx, h4, _⟩ := entries_of hes hp
    exact h2 x hx (by rw [h4, e])
  · obtain ⟨p, hp, h4, h5⟩ := entries_at hes h2
    have hpa : p.1 = a := hinj _ _ (h4.symm.trans h3)
    exact .inr ⟨j, e0, p, h1, h2, h3, hp, hpa, h5, by rw [← hpa]; exact look_at hnd hp⟩

theorem MapOf.lookup (h : MapOf P k ek ev w b l) (K : Keyed P k) (ht : P.underlying t = some (.map k e)) (hinj : ∀ x y, ek x = ek y → x = y) {z : Value} (hz : (zeroValue e).run P w = .ok z w) {a : α} {kl : Lit} (hkey : keyOf P k (ek a) = some kl) :
    (Instr.lookup t (.map (some b)) (ek a) false).run P w = .ok (((look l a).map ev).getD z) w := by
  obtain ⟨es, c, hb, _, _, ⟨h1, h2, _⟩ | ⟨j, x, p, h1, _, _, _, _, h5, h6⟩⟩ := h.find K hinj hkey
  · simp [Instr.lookup, run_underlying ht, MapKept.run_getObj_map hb, K.check w _ hkey, h1, hz, Result.andThen, h2]
  · simp [Instr.lookup, run_underlying ht, MapKept.run_getObj_map hb, K.check w _ hkey, h1, Result.andThen, h6, h5]

theorem lookup_nil (K : Keyed P k) (ht : P.underlying t = some (.map k e)) {z : Value} (hz : (zeroValue e).run P w = .ok z w) {key : Value} {kl : Lit} (hkey : keyOf P k key = some kl) (hf : (Instr.findKey k key []).run P w = .ok none w) :
    (Instr.lookup t (.map none) key false).run P w = .ok z w := by
  simp [Instr.lookup, run_underlying ht, K.check w _ hkey, hz, Result.andThen, hf]

theorem MapOf.len (h : MapOf P k ek ev w b l) (ht : P.underlying t = some (.map k e)) (ty : TypeId) : (Builtin.len_ #[t] ty #[.map (some b)]).run P w = .ok (.int .i64 (l.length : Int)) w := by
  obtain ⟨es, c, hb, hst, hes, hrd, hnd, hle⟩ := h
  have hs : es.size = l.length := by have := congrArg List.length hes; simpa using this
  simp [Builtin.len_, run_underlying ht, MapKept.run_getObj_map hb, hs, goInt, Result.andThen]

theorem put_nodup (hn : (l.map (·.1)).Nodup) (a : α) (v : β) : ((putM l a v).map (·.1)).Nodup := by
  unfold putM
  split
  · rw [List.map_map]
    have : (fun p : α × β => p.1) ∘ (fun p => if p.1 = a then (a, v) else p) = fun p => p.1 := by
      funext p
      simp only [Function.comp]
      split
      · rename_i hh; exact hh.symm
      · rfl
    rw [this]
    exact hn
  · rename_i hs
    rw [List.map_append, List.nodup_append]
    refine ⟨hn, by simp, ?_⟩
    intro x hx y hy e
    have hnone : look l a = none := by simpa using hs
    obtain ⟨p, hp, rfl⟩ := List.mem_map.1 hx
    simp at hy
    exact look_none.1 hnone p hp (by rw [e, hy])

theorem put_at (hn : (l.map (·.1)).Nodup) {a : α} {v : β} {j : Nat} {p : α × β} (hj : l[j]? = some p) (hpa : p.1 = a) : putM l a v = l.set j (a, v) := by
  have h1 : look l a = some p.2 := by rw [← hpa]; exact look_at hn hj
  unfold putM
  rw [h1]
  simp only [Option.isSome_some, if_true]
  apply List.ext_getElem?
  intro i
  rw [List.getElem?_map, List.getElem?_set]
  have hjl : j < l.length := (List.getElem?_eq_some_iff.1 hj).1
  by_cases hij : j = i
  · subst hij
    rw [hj]
    simp [hpa, hjl]
  · simp only [hij, if_false]
    cases hi : l[i]? with
    | none => simp
    | some q =>
      have : ¬ q.1 = a := fun e => hij (by
        have h2 : (l.map (·.1))[i]? = some a := by simp [hi, e]
        have h3 : (l.map (·.1))[j]? = some a := by simp [hj, hpa]
        exact (List.getElem?_inj (by simpa using hjl) hn).1 (h3.trans h2.symm))
      simp [this]

theorem MapOf.update (h : MapOf P k ek ev w b l) (K : Keyed P k) (ht : P.underlying t = some (.map k e)) (hinj : ∀ x y, ek x = ek y → x = y) {a : α} {kl : Lit} (hkey : keyOf P k (ek a) = some kl) (hroom : l.length < maxLen) (v : β) :
    ∃ o, (Instr.mapUpdate t (.map (some b)) (ek a) (ev v)).run P w = .ok () (setBlock w b o) ∧ MapOf P k ek ev (setBlock w b o) b (putM l a v) := by
  have hlt := h.lt
  obtain ⟨_, _, _, _, _, hrd, hnd, hle⟩ := id h
  obtain ⟨es, c, hb, hst, hes, hh⟩ := h.find K hinj hkey
  have hsz : es.size = l.length := by have := congrArg List.length hes; simpa using this
  rcases hh with ⟨h1, h2, h3⟩ | ⟨j, x, p, h1, hj, hxk, hp, hpa, hxv, h6⟩
  · refine ⟨.map (es.push ⟨ek a, ev v, c⟩) (c + 1), ?_, ?_⟩
    · simp [Instr.mapUpdate, run_underlying ht, MapKept.run_getObj_map hb, K.check w false hkey, h1, MapKept.run_setObj_map _ hb, Result.andThen, ChangeMaps.setBlock]
    · have hput : putM l a v = l ++ [(a, v)] := by unfold putM; rw [h2]; rfl
      refine ⟨_, _, heap_setBlock_eq _ hlt, stamped_push hst h3, ?_, ?_, put_nodup hnd a v, ?_⟩
      · rw [hput]; simp [hes]
      · intro q hq
        rw [hput] at hq
        rcases List.mem_append.1 hq with hq | hq
        · exact hrd q hq
        · simp at hq; subst hq; exact ⟨kl, hkey⟩
      · rw [hput]; simp; omega
  · have hjl : j < es.size := by have := (List.getElem?_eq_some_iff.1 hj).1; simpa using this
    have hj' : es[j]? = some x := by simpa using hj
    have hput := put_at (v := v) hnd hp hpa
    have hlist : (es.modify j (fun e' => { e' with key := ek a, val := ev v })).toList = es.toList.set j { x with key := ek a, val := ev v } := by rw [Array.toList_modify, ChangeMaps.modify_eq_set _ _ _ _ hj]
    refine ⟨.map (es.modify j (fun e' => { e' with key := ek a, val := ev v })) c, ?_, ?_⟩
    · simp [Instr.mapUpdate, run_underlying ht, MapKept.run_getObj_map hb, K.check w false hkey, h1, hj', hxk, K.stays w hkey, MapKept.run_setObj_map _ hb, Result.andThen, ChangeMaps.setBlock]
    · refine ⟨_, _, heap_setBlock_eq _ hlt, stamped_modify hst _ _ (fun _ _ => rfl) (fun e' _ he' => by rw [hj'] at he'; cases he'; exact hxk.symm), ?_, ?_, put_nodup hnd a v, ?_⟩
      · rw [hlist, hput, List.map_set, hes, List.map_set]
      · intro q hq
        rw [hput] at hq
        rcases List.mem_or_eq_of_mem_set hq with hq | rfl
        · exact hrd q hq
        · exact ⟨kl, hkey⟩
      · rw [hput]; simpa using hle

theorem del_at (hn : (l.map (·.1)).Nodup) {a : α} {j : Nat} {p : α × β} (hj : l[j]? = some p) (hpa : p.1 = a) : delM l a = l.eraseIdx j := by
  unfold delM
  refine ChangeMaps.filter_eq_eraseIdx (fun q : α × β => decide (q.1 = a)) l j p hj (by simp [hpa]) ?_
  rw [List.nodup_iff_pairwise_ne, List.pairwise_map] at hn
  refine hn.imp ?_
  intro x y hxy hh
  simp only [decide_eq_true_eq] at hh
  exact hxy (hh.1.trans hh.2.symm)

theorem MapOf.delete (h : MapOf P k ek ev w b l) (K : Keyed P k) (ht : P.underlying t = some (.map k e)) (hinj : ∀ x y, ek x = ek y → x = y) {a : α} {kl : Lit} (hkey : keyOf P k (ek a) = some kl) (ty : TypeId) :
    ∃ o, (Builtin.delete_ #[t, k] ty #[.map (some b), ek a]).run P w = .ok (.tuple #[]) (setBlock w b o) ∧ MapOf P k ek ev (setBlock w b o) b (delM l a) := by
  have hlt := h.lt
  obtain ⟨_, _, _, _, _, hrd, hnd, hle⟩ := id h
  obtain ⟨es, c, hb, hst, hes, hh⟩ := h.find K hinj hkey
  have hnd' : ((delM l a).map (·.1)).Nodup := hnd.sublist (List.filter_sublist.map _)
  have hlen : (delM l a).length ≤ maxLen := Nat.le_trans (List.length_filter_le _ _) hle
  have hrd' : ∀ p ∈ delM l a, ∃ kl, keyOf P k (ek p.1) = some kl := fun p hp => hrd p (List.mem_filter.1 hp).1
  rcases hh with ⟨h1, h2, h3⟩ | ⟨j, x, p, h1, hj, hxk, hp, hpa, hxv, h6⟩
  · refine ⟨.map es c, ?_, ?_⟩
    · simp [Builtin.delete_, run_underlying ht, MapKept.run_getObj_map hb, K.check w _ hkey, h1, MapKept.run_setObj_map _ hb, Result.andThen, ChangeMaps.setBlock]
    · have hd : delM l a = l := by
        unfold delM
        rw [List.filter_eq_self]
        intro q hq
        simpa using look_none.1 h2 q hq
      rw [hd]
      exact ⟨_, _, heap_setBlock_eq _ hlt, hst, hes, hrd, hnd, hle⟩
  · have hjs : j < es.size := by have := (List.getElem?_eq_some_iff.1 hj).1; simpa using this
    have hsub : (es.eraseIdxIfInBounds j).toList = es.toList.eraseIdx j := by
      unfold Array.eraseIdxIfInBounds
      rw [dif_pos hjs]
      simp
    refine ⟨.map (es.eraseIdxIfInBounds j) c, ?_, ?_⟩
    · simp [Builtin.delete_, run_underlying ht, MapKept.run_getObj_map hb, K.check w _ hkey, h1, MapKept.run_setObj_map _ hb, Result.andThen, ChangeMaps.setBlock]
    · refine ⟨_, _, heap_setBlock_eq _ hlt, stamped_erase hst j, ?_, hrd', hnd', hlen⟩
      rw [hsub, del_at hnd hp hpa, ChangeMaps.map_eraseIdx, ChangeMaps.map_eraseIdx, hes]
end

end Go.Proofs.Ytnpkjkhlbdkclaa
