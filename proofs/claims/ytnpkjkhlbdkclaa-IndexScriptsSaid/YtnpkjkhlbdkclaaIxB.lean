/- What an Index is in memory, and what a turn of a pair makes of it, side by side. No condition. -/
import Derived.Test.YtnpkjkhlbdkclaaIxA
import Derived.Test.YtnpkjkhlbdkclaaWp
set_option linter.unusedSimpArgs false
set_option linter.unusedVariables false
set_option linter.unusedSectionVars false
namespace Go.Proofs.Ytnpkjkhlbdkclaa
open Go.RowKit Go.Maps Go.MapKept
open Go.ChangeMaps (setBlock)

abbrev PMap (w : World) (b : Nat) (T : List Pr) : Prop := MapOf Try.prog 48 pv tv w b (T.map fun p => (p, ()))
abbrev NMap (w : World) (b : Nat) (L : List (ByteArray × Nat)) : Prop := MapOf Try.prog 9 Value.string mv w b L

def sideName (s : Nat) (p : Pr) : ByteArray := if s = 0 then p.1 else p.2
def hasP (S : List Pr) (p : Pr) : Bool := S.any (fun q => decide (q = p))
theorem hasP_iff {S : List Pr} {p : Pr} : hasP S p = true ↔ p ∈ S := by unfold hasP; simp
theorem hasP_not {S : List Pr} {p : Pr} : hasP S p = false ↔ p ∉ S := by rw [← hasP_iff]; simp
def setS (S : List Pr) (p : Pr) (on : Bool) : List Pr := if on then (if hasP S p then S else S ++ [p]) else S.filter (fun q => !decide (q = p))

theorem mem_setS {S : List Pr} {p q : Pr} {on : Bool} : q ∈ setS S p on ↔ (if q = p then on = true else q ∈ S) := by
  unfold setS
  cases on
  · by_cases h : q = p <;> simp [h]
  · cases hp : hasP S p
    · by_cases h : q = p
      · simp [h]
      · simp [h]
    · have hp' := hasP_iff.1 hp
      by_cases h : q = p
      · simp [hp', h]
      · simp [h]
theorem look_pairs (T : List Pr) (p : Pr) : look (T.map fun p => (p, ())) p = if hasP T p then some () else none := by
  cases h : hasP T p
  · have h' := hasP_not.1 h
    simp only [Bool.false_eq_true, if_false]
    rw [look_none]
    intro q hq e
    obtain ⟨r, hr, rfl⟩ := List.mem_map.1 hq
    exact h' (by rw [← e]; exact hr)
  · have h' := hasP_iff.1 h
    simp only [if_true]
    cases hl : look (T.map fun p => (p, ())) p with
    | none => exact absurd rfl (look_none.1 hl (p, ()) (List.mem_map.2 ⟨p, h', rfl⟩))
    | some u => rfl
theorem put_pairs (T : List Pr) (p : Pr) : putM (T.map fun p => (p, ())) p () = (setS T p true).map fun p => (p, ()) := by
  unfold putM setS
  rw [look_pairs]
  cases h : hasP T p
  · simp
  · simp only [if_true, Option.isSome_some, List.map_map]
    refine List.map_congr_left (fun q _ => ?_)
    simp only [Function.comp]
    split
    · rename_i hh; rw [hh]
    · rfl
theorem del_pairs (T : List Pr) (p : Pr) : delM (T.map fun p => (p, ())) p = (setS T p false).map fun p => (p, ()) := by
  unfold delM setS
  rw [List.filter_map]
  simp [Function.comp_def]

structure SideIs (w : World) (mb s : Nat) (S : List Pr) (L : List (ByteArray × Nat)) : Prop where
  map : NMap w mb L
  inner : ∀ n r, (n, r) ∈ L → ∃ T, PMap w r T ∧ ∀ p, p ∈ T ↔ p ∈ S ∧ sideName s p = n
  cover : ∀ p ∈ S, ∃ r, (sideName s p, r) ∈ L

def foot (x pb : Nat) (m : Nat → Nat) (L : Nat → List (ByteArray × Nat)) : List Nat := x :: pb :: m 0 :: m 1 :: ((L 0).map (·.2) ++ (L 1).map (·.2))

/-- An Index: its pairs S; each side's maps are those of Ss. -/
structure IxG (w : World) (x : Nat) (S : List Pr) (Ss : Nat → List Pr) (pb : Nat) (m : Nat → Nat) (L : Nat → List (ByteArray × Nat)) (n : Nat) : Prop where
  cell : w.heap[x]? = some (.cells #[mv pb, mv (m 0), mv (m 1)] 46 (0, 0))
  pairs : PMap w pb S
  side : ∀ s, s < 2 → SideIs w (m s) s (Ss s) (L s)
  nd : (foot x pb m L).Nodup
  lens : S.length ≤ n ∧ ∀ s, s < 2 → (L s).length ≤ n
  names : ∀ p ∈ S, sz p.1 ∧ sz p.2

theorem foot_side {x pb : Nat} {m : Nat → Nat} {L : Nat → List (ByteArray × Nat)} {s : Nat} (hs : s < 2) : m s ∈ foot x pb m L ∧ ∀ q ∈ L s, q.2 ∈ foot x pb m L := by
  unfold foot
  rcases (show s = 0 ∨ s = 1 by omega) with rfl | rfl
  · exact ⟨by simp, fun q hq => by simp only [List.mem_cons, List.mem_append, List.mem_map]; exact .inr (.inr (.inr (.inr (.inl ⟨q, hq, rfl⟩))))⟩
  · exact ⟨by simp, fun q hq => by simp only [List.mem_cons, List.mem_append, List.mem_map]; exact .inr (.inr (.inr (.inr (.inr ⟨q, hq, rfl⟩))))⟩

theorem IxG.lt {w : World} {x : Nat} {S : List Pr} {Ss : Nat → List Pr} {pb : Nat} {m : Nat → Nat} {L : Nat → List (ByteArray × Nat)} {n : Nat} (h : IxG w x S Ss pb m L n) : ∀ i ∈ foot x pb m L, i < w.heap.size := by
  intro i hi
  have hx : x < w.heap.size := (Array.getElem?_eq_some_iff.1 h.cell).1
  have hin : ∀ s, s < 2 → ∀ q ∈ L s, q.2 < w.heap.size := fun s hs q hq => by
    obtain ⟨T, hT, _⟩ := (h.side s hs).inner q.1 q.2 hq
    exact hT.lt
  unfold foot at hi
  simp only [List.mem_cons, List.mem_append, List.mem_map] at hi
  rcases hi with rfl | rfl | rfl | rfl | ⟨q, hq, rfl⟩ | ⟨q, hq, rfl⟩
  · exact hx
  · exact h.pairs.lt
  · exact (h.side 0 (by omega)).map.lt
  · exact (h.side 1 (by omega)).map.lt
  · exact hin 0 (by omega) q hq
  · exact hin 1 (by omega) q hq

/-- An Index stays while its blocks do. -/
theorem IxG.frame {w w' : World} {x : Nat} {S : List Pr} {Ss : Nat → List Pr} {pb : Nat} {m : Nat → Nat} {L : Nat → List (ByteArray × Nat)} {n : Nat} (h : IxG w x S Ss pb m L n) (hf : ∀ i ∈ foot x pb m L, w'.heap[i]? = w.heap[i]?) : IxG w' x S Ss pb m L n := by
  refine ⟨(hf x (by simp [foot])).trans h.cell, h.pairs.frame (hf pb (by simp [foot])), fun s hs => ?_, h.nd, h.lens, h.names⟩
  have hh := h.side s hs
  have hfs := foot_side (x := x) (pb := pb) (m := m) (L := L) hs
  exact ⟨hh.map.frame (hf _ hfs.1), fun nm r hr => by
    obtain ⟨T, hT, h2⟩ := hh.inner nm r hr
    exact ⟨T, hT.frame (hf _ (hfs.2 _ hr)), h2⟩, hh.cover⟩

/-- What stands in no two places of the footprint. -/
theorem foot_apart {x pb : Nat} {m : Nat → Nat} {L : Nat → List (ByteArray × Nat)} (hn : (foot x pb m L).Nodup) {s : Nat} (hs : s < 2) :
    x ≠ pb ∧ x ≠ m s ∧ pb ≠ m s ∧ (∀ q ∈ L s, q.2 ≠ x ∧ q.2 ≠ pb ∧ q.2 ≠ m s) ∧ ((L s).map (·.2)).Nodup ∧
    (m (1 - s) ≠ m s ∧ (∀ q ∈ L (1 - s), q.2 ≠ m s) ∧ (∀ q ∈ L s, q.2 ≠ m (1 - s)) ∧ ∀ q ∈ L s, ∀ q' ∈ L (1 - s), q.2 ≠ q'.2) := by
  unfold foot at hn
  simp only [List.nodup_cons, List.mem_cons, List.mem_append, List.nodup_append, not_or, List.mem_map, not_exists, not_and] at hn
  obtain ⟨⟨a1, a2, a3, a4, a5⟩, ⟨b1, b2, b3, b4⟩, ⟨c1, c2, c3⟩, ⟨d1, d2⟩, e1, e2, e3⟩ := hn
  have e3' : ∀ q ∈ L 0, ∀ q' ∈ L 1, q.2 ≠ q'.2 := fun q hq q' hq' => e3 q.2 ⟨q, hq, rfl⟩ q'.2 ⟨q', hq', rfl⟩
  rcases (show s = 0 ∨ s = 1 by omega) with rfl | rfl
  · exact ⟨a1, a2, b1, fun q hq => ⟨a4 q hq, b3 q hq, c2 q hq⟩, e1, fun h => c1 h.symm, fun q hq => c3 q hq, fun q hq => d1 q hq, e3'⟩
  · exact ⟨a1, a3, b2, fun q hq => ⟨a5 q hq, b4 q hq, d2 q hq⟩, e2, c1, fun q hq => d1 q hq, fun q hq => c3 q hq, fun q hq q' hq' h => e3' q' hq' q hq h.symm⟩

def upd {α : Type} (f : Nat → α) (s : Nat) (v : α) : Nat → α := fun i => if i = s then v else f i
theorem upd_at {α : Type} (f : Nat → α) (s : Nat) (v : α) : upd f s v s = v := by simp [upd]
theorem upd_ne {α : Type} (f : Nat → α) {s i : Nat} (v : α) (h : i ≠ s) : upd f s v i = f i := by simp [upd, h]

/-- A name comes to a side: a new block holds no pair, and the side's map leads to it. -/
theorem IxG.fresh {w w1 : World} {x : Nat} {S : List Pr} {Ss : Nat → List Pr} {pb : Nat} {m : Nat → Nat} {L : Nat → List (ByteArray × Nat)} {n : Nat} (h : IxG w x S Ss pb m L n) {s : Nat} (hs : s < 2) {nm : ByteArray} (hnone : look (L s) nm = none) {r : Nat} (hr : w.heap.size ≤ r)
    (hold : ∀ i, i < w.heap.size → i ≠ m s → w1.heap[i]? = w.heap[i]?) (hnew : PMap w1 r []) (hmap : NMap w1 (m s) (putM (L s) nm r)) : IxG w1 x S Ss pb m (upd L s (putM (L s) nm r)) (n + 1) := by
  have hlt := h.lt
  have hap := foot_apart h.nd hs
  have hput : putM (L s) nm r = L s ++ [(nm, r)] := by unfold putM; rw [hnone]; rfl
  rw [hput] at hmap ⊢
  have hfs := foot_side (x := x) (pb := pb) (m := m) (L := L) hs
  have hfo := foot_side (x := x) (pb := pb) (m := m) (L := L) (s := 1 - s) (by omega)
  have hold' : ∀ i ∈ foot x pb m L, i ≠ m s → w1.heap[i]? = w.heap[i]? := fun i hi hne => hold i (hlt i hi) hne
  refine ⟨(hold' x (by simp [foot]) hap.2.1).trans h.cell, h.pairs.frame (hold' pb (by simp [foot]) hap.2.2.1), fun s' hs' => ?_, ?_, ⟨by have := h.lens.1; omega, fun s' hs' => ?_⟩, h.names⟩
  · by_cases e : s' = s
    · subst e
      rw [upd_at]
      refine ⟨hmap, fun nm' r' hr' => ?_, fun p hp => ?_⟩
      · rcases List.mem_append.1 hr' with h1 | h1
        · obtain ⟨T, hT, h2⟩ := (h.side s' hs').inner nm' r' h1
          exact ⟨T, hT.frame (hold' _ (hfs.2 _ h1) ((hap.2.2.2.1 _ h1).2.2)), h2⟩
        · simp only [List.mem_singleton, Prod.mk.injEq] at h1
          obtain ⟨rfl, rfl⟩ := h1
          refine ⟨[], hnew, fun p => ⟨fun hp => by simp at hp, fun ⟨hp, hn⟩ => ?_⟩⟩
          obtain ⟨r2, hr2⟩ := (h.side s' hs').cover p hp
          exact absurd hn (look_none.1 hnone _ hr2)
      · obtain ⟨r2, hr2⟩ := (h.side s' hs').cover p hp
        exact ⟨r2, List.mem_append_left _ hr2⟩
    · have e1 : s' = 1 - s := by omega
      subst e1
      rw [upd_ne _ _ e]
      have hh := h.side (1 - s) hs'
      exact ⟨hh.map.frame (hold' _ hfo.1 hap.2.2.2.2.2.1), fun nm' r' hr' => by
        obtain ⟨T, hT, h2⟩ := hh.inner nm' r' hr'
        exact ⟨T, hT.frame (hold' _ (hfo.2 _ hr') (hap.2.2.2.2.2.2.1 _ hr')), h2⟩, hh.cover⟩
  · have hrn : r ∉ foot x pb m L := fun hm => by have := hlt r hm; omega
    have hnd := h.nd
    unfold foot at hnd hrn ⊢
    rcases (show s = 0 ∨ s = 1 by omega) with rfl | rfl
    · rw [upd_at, upd_ne _ _ (by omega)]
      have hp : List.Perm (x :: pb :: m 0 :: m 1 :: ((L 0 ++ [(nm, r)]).map (·.2) ++ (L 1).map (·.2))) (r :: x :: pb :: m 0 :: m 1 :: ((L 0).map (·.2) ++ (L 1).map (·.2))) := by
        rw [List.map_append, List.append_assoc]
        have := (List.perm_middle (a := r) (l₁ := x :: pb :: m 0 :: m 1 :: (L 0).map (·.2)) (l₂ := (L 1).map (·.2)))
        simpa using this
      rw [hp.nodup_iff]
      exact List.nodup_cons.2 ⟨hrn, hnd⟩
    · rw [upd_at, upd_ne _ _ (by omega)]
      have hp : List.Perm (x :: pb :: m 0 :: m 1 :: ((L 0).map (·.2) ++ (L 1 ++ [(nm, r)]).map (·.2))) (r :: x :: pb :: m 0 :: m 1 :: ((L 0).map (·.2) ++ (L 1).map (·.2))) := by
        rw [List.map_append]
        have := (List.perm_middle (a := r) (l₁ := x :: pb :: m 0 :: m 1 :: ((L 0).map (·.2) ++ (L 1).map (·.2))) (l₂ := []))
        simpa using this
      rw [hp.nodup_iff]
      exact List.nodup_cons.2 ⟨hrn, hnd⟩
  · by_cases e : s' = s
    · subst e; rw [upd_at, List.length_append]; have := h.lens.2 s' hs'; simp; omega
    · rw [upd_ne _ _ e]; have := h.lens.2 s' hs'; omega

/-- The inner map of a side's name is written. -/
theorem IxG.turned {w w1 : World} {x : Nat} {S : List Pr} {Ss : Nat → List Pr} {pb : Nat} {m : Nat → Nat} {L : Nat → List (ByteArray × Nat)} {n : Nat} (h : IxG w x S Ss pb m L n) {s : Nat} (hs : s < 2) {p : Pr} {on : Bool} {r : Nat} (hr : (sideName s p, r) ∈ L s)
    {T : List Pr} (hT : ∀ q, q ∈ T ↔ q ∈ Ss s ∧ sideName s q = sideName s p) (hat : At w w1 r) (hnew : PMap w1 r (setS T p on)) : IxG w1 x S (upd Ss s (setS (Ss s) p on)) pb m L n := by
  have hap := foot_apart h.nd hs
  have hr1 := hap.2.2.2.1 _ hr
  have hfo : ∀ i, i ≠ r → w1.heap[i]? = w.heap[i]? := hat.block
  refine ⟨(hfo x (fun e => hr1.1 e.symm)).trans h.cell, h.pairs.frame (hfo pb (fun e => hr1.2.1 e.symm)), fun s' hs' => ?_, h.nd, h.lens, h.names⟩
  by_cases e : s' = s
  · subst e
    rw [upd_at]
    have hh := h.side s' hs'
    refine ⟨hh.map.frame (hfo _ (fun e => hr1.2.2 e.symm)), fun nm' r' hr' => ?_, fun q hq => ?_⟩
    · by_cases er : r' = r
      · subst er
        have enm : nm' = sideName s' p := by
          have hn := hap.2.2.2.2.1
          obtain ⟨i, hi⟩ := List.mem_iff_getElem?.1 hr'
          obtain ⟨j, hj⟩ := List.mem_iff_getElem?.1 hr
          have hi' : ((L s').map (·.2))[i]? = some r' := by simp [hi]
          have hj' : ((L s').map (·.2))[j]? = some r' := by simp [hj]
          have hil : i < ((L s').map (·.2)).length := (List.getElem?_eq_some_iff.1 hi').1
          have : i = j := (List.getElem?_inj hil hn).1 (hi'.trans hj'.symm)
          subst this
          rw [hi] at hj
          simp only [Option.some.injEq, Prod.mk.injEq, and_true] at hj
          exact hj
        subst enm
        refine ⟨_, hnew, fun q => ?_⟩
        rw [mem_setS, mem_setS]
        by_cases eq : q = p
        · subst eq; simp
        · simp [eq, hT q]
      · obtain ⟨T', hT', h2⟩ := hh.inner nm' r' hr'
        refine ⟨T', hT'.frame (hfo _ er), fun q => ?_⟩
        rw [h2 q, mem_setS]
        by_cases eq : q = p
        · subst eq
          have hne : sideName s' q ≠ nm' := fun e => er (by
            subst e
            have h3 := mem_look hh.map.nodup hr'
            have h4 := mem_look hh.map.nodup hr
            simp only at h3 h4
            rw [h3] at h4
            exact Option.some.inj h4)
          simp [hne]
        · simp [eq]
    · rw [mem_setS] at hq
      by_cases eq : q = p
      · subst eq; exact ⟨r, hr⟩
      · simp only [eq, if_false] at hq
        exact hh.cover q hq
  · have e1 : s' = 1 - s := by omega
    subst e1
    rw [upd_ne _ _ e]
    have hh := h.side (1 - s) hs'
    exact ⟨hh.map.frame (hfo _ (fun e => hap.2.2.2.2.2.2.2.1 _ hr e.symm)), fun nm' r' hr' => by
      obtain ⟨T', hT', h2⟩ := hh.inner nm' r' hr'
      exact ⟨T', hT'.frame (hfo _ (fun e => hap.2.2.2.2.2.2.2.2 _ hr _ hr' e.symm)), h2⟩, hh.cover⟩

/-- The pairs themselves are written. -/
theorem IxG.done {w w1 : World} {x : Nat} {S : List Pr} {Ss : Nat → List Pr} {pb : Nat} {m : Nat → Nat} {L : Nat → List (ByteArray × Nat)} {n : Nat} (h : IxG w x S Ss pb m L n) {S' : List Pr} (hat : At w w1 pb) (hnew : PMap w1 pb S') (hl : S'.length ≤ n) (hnm : ∀ p ∈ S', sz p.1 ∧ sz p.2) : IxG w1 x S' Ss pb m L n := by
  have h0 := foot_apart h.nd (s := 0) (by omega)
  refine ⟨(hat.block x h0.1).trans h.cell, hnew, fun s hs => ?_, h.nd, ⟨hl, h.lens.2⟩, hnm⟩
  have hap := foot_apart h.nd hs
  have hh := h.side s hs
  exact ⟨hh.map.frame (hat.block _ (fun e => hap.2.2.1 e.symm)), fun nm r hr => by
    obtain ⟨T, hT, h2⟩ := hh.inner nm r hr
    exact ⟨T, hT.frame (hat.block _ (hap.2.2.2.1 _ hr).2.1), h2⟩, hh.cover⟩

end Go.Proofs.Ytnpkjkhlbdkclaa
