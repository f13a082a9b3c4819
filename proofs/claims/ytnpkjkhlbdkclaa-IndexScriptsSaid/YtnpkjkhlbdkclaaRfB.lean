/- The document's own Index: Set and Forget. Condition: room. -/
import Derived.Test.YtnpkjkhlbdkclaaRfA
set_option linter.unusedSimpArgs false
set_option linter.unusedVariables false
namespace Go.Proofs.Ytnpkjkhlbdkclaa
open Go.RowKit Go.Maps Go.MapKept Go.Proofs.YtnpkjkhlbdkclaaW.PrintWords Go.Proofs.Ytnpkjkhlbdkclaa.PIndexScripts

theorem setS_same {S : List Pr} {p : Pr} {on : Bool} (h : hasP S p = on) : setS S p on = S := by
  unfold setS
  cases on
  · simp only [Bool.false_eq_true, if_false]
    rw [List.filter_eq_self]
    intro q hq
    have := hasP_not.1 h
    simp only [Bool.not_eq_true', decide_eq_false_iff_not]
    exact fun e => this (e ▸ hq)
  · simp [h]
theorem filter_take {S : List Pr} {f : Pr → Bool} {i : Nat} {p : Pr} (hi : i < S.length) (hp : S[i] = p) : (S.take (i + 1)).filter f = (S.take i).filter f ++ (if f p then [p] else []) := by
  rw [List.take_succ_eq_append_getElem hi, List.filter_append, hp]
  congr 1
  rw [List.filter_cons]
  rfl

/-- What a loop that gathers pairs knows ahead of round i: v holds those of the first i. -/
structure Gath (w wr : World) (S : List Pr) (f : Pr → Bool) (i : Nat) (v : Value) : Prop where
  own : wr.ownsRow w.heap.size 47 2 v ((S.take i).filter f).length (prc ((S.take i).filter f))
  b : Below w.heap.size w wr
theorem Gath.start (w : World) (S : List Pr) (f : Pr → Bool) : Gath w w S f 0 (.slice none 0 0) := ⟨⟨rfl, .inl ⟨rfl, rfl⟩⟩, Below.refl _ _⟩
theorem Gath.skip {w wr : World} {S : List Pr} {f : Pr → Bool} {i : Nat} {v : Value} {p : Pr} (h : Gath w wr S f i v) (hi : i < S.length) (hp : S[i] = p) (hf : f p = false) : Gath w wr S f (i + 1) v := by
  have e : (S.take (i + 1)).filter f = (S.take i).filter f := by rw [filter_take hi hp, hf]; simp
  exact ⟨by rw [e]; exact h.own, h.b⟩
theorem Gath.len {w wr : World} {S : List Pr} {f : Pr → Bool} {i : Nat} {v : Value} (h : Gath w wr S f i v) : ((S.take i).filter f).length ≤ S.length :=
  Nat.le_trans (List.length_filter_le _ _) (by rw [List.length_take]; omega)
theorem Gath.alloc {w wr : World} {S : List Pr} {f : Pr → Bool} {i : Nat} {v : Value} (h : Gath w wr S f i v) (o : Obj) : Gath w (wr.alloc o) S f i v :=
  ⟨own_move h.own (fun g hg => Below.heap_alloc _ _ _ (own_lt h.own g hg)), h.b.alloc h.b.size _⟩
theorem Gath.keep {w wr w' : World} {S : List Pr} {f : Pr → Bool} {i : Nat} {v v' : Value} {p : Pr} (h : Gath w wr S f i v) (hi : i < S.length) (hp : S[i] = p) (hf : f p = true)
    (ho : w'.ownsRow w.heap.size 47 2 v' (((S.take i).filter f).length + 1) (prc ((S.take i).filter f) ++ [.string p.1, .string p.2])) (hg : wr.grownBy w' v.ownBlock) : Gath w w' S f (i + 1) v' := by
  have e : (S.take (i + 1)).filter f = (S.take i).filter f ++ [p] := by rw [filter_take hi hp, hf]; simp
  refine ⟨?_, h.b.grown hg h.b.size (fun k hk => own_base h.own k hk)⟩
  rw [e, prc_append, List.length_append]
  exact ho
/-- One pair, laid for an append. -/
theorem pair_reads (w : World) (a b : ByteArray) : Reads (w.alloc (.cells #[.string a, .string b] 47)) (w.heap.size + 1) 2 (some ⟨w.heap.size, 0, none⟩) 1 [.string a, .string b] := by
  have hb := heap_alloc_new w (.cells #[.string a, .string b] 47)
  refine ⟨rfl, fun _ => ⟨_, rfl, by simp, fun j u hu => ?_⟩⟩
  match j, hu with
  | 0, hu => simp at hu; subst hu; exact cell_of_block hb
  | 1, hu => simp at hu; subst hu; exact cell_of_block hb
/-- What was gathered is the Index now. -/
theorem Rf.stored {w0 w wr : World} {r : Nat} {S : List Pr} {v v' : Value} {f : Pr → Bool} (h : Rf w0 w r S v) (hg : Gath w wr S f S.length v') : Rf w0 (wr.setCell ⟨r, 0, none⟩ v') r (S.filter f) v' ∧ Step w (wr.setCell ⟨r, 0, none⟩ v') (fr r v) (fr r v') := by
  have hr := (h.below hg.b)
  have hlt := hr.lt r (mem_fr.2 (.inl rfl))
  have hbl : ∀ i, i ≠ r → (wr.setCell ⟨r, 0, none⟩ v').heap[i]? = wr.heap[i]? := fun i hi => Below.heap_setCell wr _ _ _ (fun e => hi e)
  have hown : wr.ownsRow w.heap.size 47 2 v' (S.filter f).length (prc (S.filter f)) := by have := hg.own; rwa [List.take_length] at this
  have hne : ∀ g, v'.ownBlock = some g → g ≠ r := fun g hg2 e => by
    have h1 := own_base hown g hg2
    have h2 := h.lt r (mem_fr.2 (.inl rfl))
    omega
  have hmods : Mods w (wr.setCell ⟨r, 0, none⟩ v') (fr r v) := (Mods.of_below hg.b _).setCell (.inl (mem_fr.2 (.inl rfl))) _
  refine ⟨⟨?_, ?_, hne, h.ge, ?_⟩, ⟨hmods, fun i hi => ?_⟩⟩
  · have := Blk.set_ (t := 30) (cs := #[v]) hr.cell 0 v'
    exact this
  · exact own_weaken (own_move hown (fun g hg2 => hbl g (hne g hg2))) h.b.size
  · exact h.b.trans (hmods.below h.b.size h.ge_)
  · rcases mem_fr.1 hi with rfl | hi
    · exact .inl (mem_fr.2 (.inl rfl))
    · exact .inr (own_base hown i hi)
/-- A pair was laid behind the others. -/
theorem Rf.pushed {w0 w w1 w2 : World} {r : Nat} {S : List Pr} {v v' : Value} (h : Rf w0 w r S v) {p : Pr} (hb : Below w.heap.size w w1) (ho : w2.ownsRow w0.heap.size 47 2 v' (S.length + 1) (prc S ++ [.string p.1, .string p.2])) (hg : w1.grownBy w2 v.ownBlock)
    (hv : v'.ownBlock = v.ownBlock ∨ v'.ownBlock = some w1.heap.size) : Rf w0 (w2.setCell ⟨r, 0, none⟩ v') r (S ++ [p]) v' ∧ Step w (w2.setCell ⟨r, 0, none⟩ v') (fr r v) (fr r v') := by
  have hlt := h.lt r (mem_fr.2 (.inl rfl))
  have hs1 := hb.size
  have hne : ∀ g, v'.ownBlock = some g → g ≠ r := fun g hg2 => by
    rcases hv with e | e
    · exact h.ne g (by rw [← e]; exact hg2)
    · rw [hg2] at e
      cases e
      omega
  have hm1 : Mods w w2 (fr r v) := (Mods.of_below hb (fr r v)).trans (Mods.of_grown (fp := fr r v) hg (fun g hg => .inl (mem_fr.2 (.inr hg)))) (fun i hi => .inl hi)
  have hmods : Mods w (w2.setCell ⟨r, 0, none⟩ v') (fr r v) := hm1.setCell (.inl (mem_fr.2 (.inl rfl))) _
  have hcell : w2.heap[r]? = some (.cells #[v] 30 (0, 0)) := by
    rw [hg.block r (by omega) (fun e => h.ne r e.symm rfl), hb.block r hlt]
    exact h.cell
  refine ⟨⟨?_, ?_, hne, h.ge, ?_⟩, ⟨hmods, fun i hi => ?_⟩⟩
  · have := Blk.set_ (t := 30) (cs := #[v]) hcell 0 v'
    exact this
  · rw [prc_append, List.length_append]
    exact own_move ho (fun g hg2 => Below.heap_setCell w2 _ _ _ (fun e => hne g hg2 e))
  · exact h.b.trans (hmods.below h.b.size h.ge_)
  · rcases mem_fr.1 hi with rfl | hi
    · exact .inl (mem_fr.2 (.inl rfl))
    · rcases hv with e | e
      · exact .inl (mem_fr.2 (.inr (by rw [← e]; exact hi)))
      · rw [hi] at e
        cases e
        exact .inr hs1
end Go.Proofs.Ytnpkjkhlbdkclaa
