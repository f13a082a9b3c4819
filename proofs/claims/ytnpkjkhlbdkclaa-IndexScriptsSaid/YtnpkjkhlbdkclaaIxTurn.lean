/- (*Index).turn: what it does to an Index, whatever it is told. Condition: names of a length that may be, and room. -/
import Derived.Test.YtnpkjkhlbdkclaaIxB
import Derived.Outline
import Derived.WalkLawsBesides
import Derived.WalkSpells
import Derived.RegionTactic
import Derived.Deep.QuietTactic
import Derived.BigQuiet
import Derived.StillTailTactics
set_option linter.unusedSimpArgs false
set_option linter.unusedVariables false
namespace Go.Proofs.Ytnpkjkhlbdkclaa
open Go.RowKit Go.Maps Go.MapKept

theorem IxG.congr {w : World} {x : Nat} {S : List Pr} {Ss Ss' : Nat → List Pr} {pb : Nat} {m : Nat → Nat} {L : Nat → List (ByteArray × Nat)} {n : Nat} (h : IxG w x S Ss pb m L n) (e : ∀ s, s < 2 → Ss' s = Ss s) : IxG w x S Ss' pb m L n :=
  ⟨h.cell, h.pairs, fun s hs => by rw [e s hs]; exact h.side s hs, h.nd, h.lens, h.names⟩
theorem IxG.mono {w : World} {x : Nat} {S : List Pr} {Ss : Nat → List Pr} {pb : Nat} {m : Nat → Nat} {L : Nat → List (ByteArray × Nat)} {n n' : Nat} (h : IxG w x S Ss pb m L n) (hn : n ≤ n') : IxG w x S Ss pb m L n' :=
  ⟨h.cell, h.pairs, h.side, h.nd, ⟨Nat.le_trans h.lens.1 hn, fun s hs => Nat.le_trans (h.lens.2 s hs) hn⟩, h.names⟩

/-- The world under way: k sides have been turned. -/
structure TurnRel (w0 : World) (x pb : Nat) (S : List Pr) (m : Nat → Nat) (L0 : Nat → List (ByteArray × Nat)) (n : Nat) (p : Pr) (on : Bool) (k : Nat) (L : Nat → List (ByteArray × Nat)) (n' : Nat) (wr : World) : Prop where
  ix : IxG wr x S (fun s => if s < k then setS S p on else S) pb m L n'
  room : n' ≤ n ∨ (p ∉ S ∧ n' ≤ n + k)
  own : ∀ i ∈ foot x pb m L, i ∈ foot x pb m L0 ∨ w0.heap.size ≤ i
  mods : Mods w0 wr (foot x pb m L0)
  pair : wr.heap[w0.heap.size]? = some (.cells #[.string p.1, .string p.2] 48 (0, 0))
  far : w0.heap.size ∉ foot x pb m L

theorem cell_of_block {w : World} {b i : Nat} {cs : Array Value} {t : TypeId} {f : Nat × Nat} (h : w.heap[b]? = some (.cells cs t f)) : w.cell? ⟨b, i, none⟩ = cs[i]? := by simp [World.cell?, h]

section
variable {w0 : World} {x pb : Nat} {S : List Pr} {m : Nat → Nat} {L0 : Nat → List (ByteArray × Nat)} {n : Nat} {p : Pr} {on : Bool} {k : Nat} {L : Nat → List (ByteArray × Nat)} {n' : Nat} {wr : World}

theorem TurnRel.start (h : IxG w0 x S (fun _ => S) pb m L0 n) : TurnRel w0 x pb S m L0 n p on 0 L0 n (w0.alloc (.cells #[.string p.1, .string p.2] 48)) :=
  ⟨(h.frame (fun i hi => Below.heap_alloc _ _ _ (h.lt i hi))).congr (fun s hs => by simp), .inl (Nat.le_refl _), fun i hi => .inl hi, (Mods.refl _ _).alloc _, heap_alloc_new _ _, fun hm => by have := h.lt _ hm; omega⟩
theorem TurnRel.drewN (h : TurnRel w0 x pb S m L0 n p on k L n' wr) (q : Nat) : TurnRel w0 x pb S m L0 n p on k L n' (wr.drewN q) :=
  ⟨h.ix.frame (fun _ _ => rfl), h.room, h.own, h.mods.drewN q, h.pair, h.far⟩
theorem TurnRel.name (h : TurnRel w0 x pb S m L0 n p on k L n' wr) (hk : k < 2) : wr.cell? ⟨w0.heap.size, k, none⟩ = some (.string (sideName k p)) := by
  rw [cell_of_block h.pair]
  rcases (show k = 0 ∨ k = 1 by omega) with rfl | rfl <;> rfl
theorem TurnRel.field (h : TurnRel w0 x pb S m L0 n p on k L n' wr) {j : Nat} (hj : j < 2) : wr.cell? ⟨x, 1 + j, none⟩ = some (.map (some (m j))) := by
  rw [cell_of_block h.ix.cell]
  rcases (show j = 0 ∨ j = 1 by omega) with rfl | rfl <;> rfl
theorem TurnRel.pairs (h : TurnRel w0 x pb S m L0 n p on k L n' wr) : wr.cell? ⟨x, 0, none⟩ = some (.map (some pb)) := cell_of_block h.ix.cell
theorem TurnRel.p0 (h : TurnRel w0 x pb S m L0 n p on k L n' wr) : wr.cell? ⟨w0.heap.size, 0, none⟩ = some (.string p.1) := cell_of_block h.pair
theorem TurnRel.p1 (h : TurnRel w0 x pb S m L0 n p on k L n' wr) : wr.cell? ⟨w0.heap.size, 1, none⟩ = some (.string p.2) := cell_of_block h.pair

/-- In the middle of a side: the name leads to block r. -/
structure MidRel (w0 : World) (x pb : Nat) (S : List Pr) (m : Nat → Nat) (L0 : Nat → List (ByteArray × Nat)) (n : Nat) (p : Pr) (on : Bool) (k : Nat) (L : Nat → List (ByteArray × Nat)) (n' r : Nat) (wr : World) : Prop where
  ix : IxG wr x S (fun s => if s < k then setS S p on else S) pb m L n'
  room : n' ≤ n ∨ (p ∉ S ∧ n' ≤ n + k + 1)
  own : ∀ i ∈ foot x pb m L, i ∈ foot x pb m L0 ∨ w0.heap.size ≤ i
  mods : Mods w0 wr (foot x pb m L0)
  pair : wr.heap[w0.heap.size]? = some (.cells #[.string p.1, .string p.2] 48 (0, 0))
  far : w0.heap.size ∉ foot x pb m L
  led : (sideName k p, r) ∈ L k

/-- A name that is not there: a new, empty map is made, and led to. -/
theorem TurnRel.fresh (h : TurnRel w0 x pb S m L0 n p on k L n' wr) (hk : k < 2) (hnone : look (L k) (sideName k p) = none) {w1 : World}
    (hat : At (wr.alloc (.map #[] 0)) w1 (m k)) (hmap : NMap w1 (m k) (putM (L k) (sideName k p) wr.heap.size)) :
    ∃ L' n'', MidRel w0 x pb S m L0 n p on k L' n'' wr.heap.size w1 := by
  have hlt := h.ix.lt
  have hfs := foot_side (x := x) (pb := pb) (m := m) (L := L) hk
  have hmk := hlt _ hfs.1
  have hA : w0.heap.size < wr.heap.size := (Array.getElem?_eq_some_iff.1 h.pair).1
  have hnotS : p ∉ S := fun hp => by
    have := (h.ix.side k hk).cover p (by simp only [Nat.lt_irrefl, if_false]; exact hp)
    obtain ⟨r, hr⟩ := this
    exact look_none.1 hnone _ hr rfl
  have hput : putM (L k) (sideName k p) wr.heap.size = L k ++ [(sideName k p, wr.heap.size)] := by unfold putM; rw [hnone]; rfl
  have hold : ∀ i, i < wr.heap.size → i ≠ m k → w1.heap[i]? = wr.heap[i]? := fun i hi hne => (hat.block i hne).trans (Below.heap_alloc _ _ _ hi)
  have hfoot : ∀ i ∈ foot x pb m (upd L k (putM (L k) (sideName k p) wr.heap.size)), i ∈ foot x pb m L ∨ i = wr.heap.size := by
    intro i hi
    rw [hput] at hi
    unfold foot at hi ⊢
    simp only [List.mem_cons, List.mem_append, List.mem_map] at hi ⊢
    rcases (show k = 0 ∨ k = 1 by omega) with rfl | rfl
    · rw [upd_at, upd_ne _ _ (by omega)] at hi
      rcases hi with h1 | h1 | h1 | h1 | ⟨q, hq, rfl⟩ | h1
      · exact .inl (.inl h1)
      · exact .inl (.inr (.inl h1))
      · exact .inl (.inr (.inr (.inl h1)))
      · exact .inl (.inr (.inr (.inr (.inl h1))))
      · rcases List.mem_append.1 hq with hq | hq
        · exact .inl (.inr (.inr (.inr (.inr (.inl ⟨q, hq, rfl⟩)))))
        · simp at hq; exact .inr (by rw [hq])
      · exact .inl (.inr (.inr (.inr (.inr (.inr h1)))))
    · rw [upd_at, upd_ne _ _ (by omega)] at hi
      rcases hi with h1 | h1 | h1 | h1 | h1 | ⟨q, hq, rfl⟩
      · exact .inl (.inl h1)
      · exact .inl (.inr (.inl h1))
      · exact .inl (.inr (.inr (.inl h1)))
      · exact .inl (.inr (.inr (.inr (.inl h1))))
      · exact .inl (.inr (.inr (.inr (.inr (.inl h1)))))
      · rcases List.mem_append.1 hq with hq | hq
        · exact .inl (.inr (.inr (.inr (.inr (.inr ⟨q, hq, rfl⟩)))))
        · simp at hq; exact .inr (by rw [hq])
  have hAk : w0.heap.size ≠ m k := fun e => h.far (e ▸ hfs.1)
  have hrk : wr.heap.size ≠ m k := by omega
  have hnew : PMap w1 wr.heap.size [] := (MapOf.made wr).frame (hat.block _ hrk)
  refine ⟨_, n' + 1, h.ix.fresh hk hnone (Nat.le_refl _) hold hnew hmap, ?_, fun i hi => ?_, ?_, ?_, fun hm => ?_, ?_⟩
  · rcases h.room with h1 | ⟨h1, h2⟩
    · exact .inr ⟨hnotS, by omega⟩
    · exact .inr ⟨h1, by omega⟩
  · rcases hfoot i hi with h1 | rfl
    · exact h.own i h1
    · exact .inr (by omega)
  · exact hat.mods (h.mods.alloc _) (h.own _ hfs.1)
  · exact (hold _ hA hAk).trans h.pair
  · rcases hfoot _ hm with h1 | h1
    · exact h.far h1
    · omega
  · rw [upd_at, hput]; simp

theorem TurnRel.there (h : TurnRel w0 x pb S m L0 n p on k L n' wr) {r : Nat} (hl : look (L k) (sideName k p) = some r) : MidRel w0 x pb S m L0 n p on k L n' r wr :=
  ⟨h.ix, by rcases h.room with h1 | ⟨h1, h2⟩; exact .inl h1; exact .inr ⟨h1, by omega⟩, h.own, h.mods, h.pair, h.far, look_mem hl⟩
theorem MidRel.drewN {r : Nat} (h : MidRel w0 x pb S m L0 n p on k L n' r wr) (q : Nat) : MidRel w0 x pb S m L0 n p on k L n' r (wr.drewN q) :=
  ⟨h.ix.frame (fun _ _ => rfl), h.room, h.own, h.mods.drewN q, h.pair, h.far, h.led⟩
theorem MidRel.p0 {r : Nat} (h : MidRel w0 x pb S m L0 n p on k L n' r wr) : wr.cell? ⟨w0.heap.size, 0, none⟩ = some (.string p.1) := cell_of_block h.pair
theorem MidRel.p1 {r : Nat} (h : MidRel w0 x pb S m L0 n p on k L n' r wr) : wr.cell? ⟨w0.heap.size, 1, none⟩ = some (.string p.2) := cell_of_block h.pair
theorem MidRel.look {r : Nat} (h : MidRel w0 x pb S m L0 n p on k L n' r wr) (hk : k < 2) {nm : ByteArray} (hn : nm = sideName k p) (hz : sz nm) :
    (Instr.lookup 43 (.map (some (m k))) (.string nm) false).run Try.prog wr = .ok (.map (some r)) wr := by
  have hS := h.ix.side k hk
  have := hS.map.lookup (t := 43) stringKeyed Try.underlying43 sv_inj (zeroInner _) (stringKey nm hz).choose_spec
  have hl := mem_look hS.map.nodup h.led
  simp only at hl
  rw [hn, hl] at this
  rw [hn]
  exact this
theorem nodup_le : ∀ (T S : List Pr), T.Nodup → (∀ q ∈ T, q ∈ S) → T.length ≤ S.length
  | [], _, _, _ => Nat.zero_le _
  | t :: T, S, hn, hs => by
    obtain ⟨a, b, rfl⟩ := List.append_of_mem (hs t (by simp))
    obtain ⟨h1, h2⟩ := List.nodup_cons.1 hn
    have := nodup_le T (a ++ b) h2 (fun q hq => by
      have h3 := hs q (by simp [hq])
      simp only [List.mem_append, List.mem_cons] at h3 ⊢
      rcases h3 with h3 | h3 | h3
      · exact .inl h3
      · subst h3; exact absurd hq h1
      · exact .inr h3)
    simp at this ⊢
    omega
theorem pmap_nodup {w : World} {b : Nat} {T : List Pr} (h : PMap w b T) : T.Nodup := by
  have := h.nodup
  rw [List.map_map] at this
  have e : ((fun x : Pr × Unit => x.1) ∘ fun p : Pr => (p, ())) = id := rfl
  rw [e, List.map_id] at this
  exact this
theorem MidRel.inner {r : Nat} (h : MidRel w0 x pb S m L0 n p on k L n' r wr) (hk : k < 2) : ∃ T, PMap wr r T ∧ (∀ q, q ∈ T ↔ q ∈ S ∧ sideName k q = sideName k p) ∧ T.length ≤ S.length := by
  obtain ⟨T, h1, h2⟩ := (h.ix.side k hk).inner _ _ h.led
  simp only [Nat.lt_irrefl, if_false] at h2
  exact ⟨T, h1, h2, nodup_le T S (pmap_nodup h1) (fun q hq => ((h2 q).1 hq).1)⟩

/-- The name's own map is written: the side is done. -/
theorem MidRel.turned {w2 : World} {r : Nat} (h : MidRel w0 x pb S m L0 n p on k L n' r wr) (hk : k < 2) {T : List Pr} (hT : ∀ q, q ∈ T ↔ q ∈ S ∧ sideName k q = sideName k p) (hat : At wr w2 r) (hnew : PMap w2 r (setS T p on)) : TurnRel w0 x pb S m L0 n p on (k + 1) L n' w2 := by
  have hfs := foot_side (x := x) (pb := pb) (m := m) (L := L) hk
  have hrf := hfs.2 _ h.led
  refine ⟨(h.ix.turned hk h.led (by intro q; simp only [Nat.lt_irrefl, if_false]; exact hT q) hat hnew).congr (fun s hs => ?_), ?_, h.own, hat.mods h.mods (h.own r hrf), (hat.block w0.heap.size (fun e => h.far (by rw [e]; exact hrf))).trans h.pair, h.far⟩
  · unfold upd
    by_cases e : s = k
    · subst e; simp
    · by_cases e2 : s < k
      · simp [e, e2, Nat.lt_succ_of_lt e2]
      · have : ¬ s < k + 1 := by omega
        simp [e, e2, this]
  · rcases h.room with h1 | ⟨h1, h2⟩
    · exact .inl h1
    · exact .inr ⟨h1, by omega⟩
end

end Go.Proofs.Ytnpkjkhlbdkclaa
