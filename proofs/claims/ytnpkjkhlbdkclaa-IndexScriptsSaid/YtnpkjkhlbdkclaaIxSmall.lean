/- (*Index).New, Len, Has, Set: what they do. Condition: names of a length that may be, and room. -/
import Derived.Test.YtnpkjkhlbdkclaaIxTurnW
import Derived.BigGuard
import Derived.BigQuiet
set_option linter.unusedSimpArgs false
set_option linter.unusedVariables false
namespace Go.Proofs.Ytnpkjkhlbdkclaa
open Go.RowKit Go.Maps Go.MapKept

/-- An Index with the pairs S; fp: its blocks; n: a bound on all its lengths. -/
def Ix (w : World) (x : Nat) (S : List Pr) (fp : List Nat) (n : Nat) : Prop := ∃ pb m L, fp = foot x pb m L ∧ IxG w x S (fun _ => S) pb m L n

theorem Ix.lt {w : World} {x : Nat} {S : List Pr} {fp : List Nat} {n : Nat} (h : Ix w x S fp n) : ∀ i ∈ fp, i < w.heap.size := by
  obtain ⟨pb, m, L, rfl, h⟩ := h
  exact h.lt
theorem Ix.frame {w w' : World} {x : Nat} {S : List Pr} {fp : List Nat} {n : Nat} (h : Ix w x S fp n) (hf : ∀ i ∈ fp, w'.heap[i]? = w.heap[i]?) : Ix w' x S fp n := by
  obtain ⟨pb, m, L, rfl, h⟩ := h
  exact ⟨pb, m, L, rfl, h.frame hf⟩
theorem Ix.mods {w w' : World} {x : Nat} {S : List Pr} {fp fp' : List Nat} {n : Nat} (h : Ix w x S fp n) (hm : Mods w w' fp') (hd : ∀ i ∈ fp, i ∉ fp') : Ix w' x S fp n :=
  h.frame (fun i hi => hm.block i (h.lt i hi) (hd i hi))
theorem Ix.below {w w' : World} {x : Nat} {S : List Pr} {fp : List Nat} {n : Nat} (h : Ix w x S fp n) (hm : Below w.heap.size w w') : Ix w' x S fp n :=
  h.frame (fun i hi => hm.block i (h.lt i hi))
theorem Ix.mem {w : World} {x : Nat} {S : List Pr} {fp : List Nat} {n : Nat} (h : Ix w x S fp n) : x ∈ fp := by
  obtain ⟨pb, m, L, rfl, h⟩ := h
  simp [foot]
theorem Ix.nodup {w : World} {x : Nat} {S : List Pr} {fp : List Nat} {n : Nat} (h : Ix w x S fp n) : S.Nodup := by
  obtain ⟨pb, m, L, rfl, h⟩ := h
  exact pmap_nodup h.pairs
theorem Ix.names {w : World} {x : Nat} {S : List Pr} {fp : List Nat} {n : Nat} (h : Ix w x S fp n) : ∀ p ∈ S, sz p.1 ∧ sz p.2 := by
  obtain ⟨pb, m, L, rfl, h⟩ := h
  exact h.names
theorem Ix.len {w : World} {x : Nat} {S : List Pr} {fp : List Nat} {n : Nat} (h : Ix w x S fp n) : S.length ≤ n := by
  obtain ⟨pb, m, L, rfl, h⟩ := h
  exact h.lens.1
theorem Ix.mono {w : World} {x : Nat} {S : List Pr} {fp : List Nat} {n n' : Nat} (h : Ix w x S fp n) (hn : n ≤ n') : Ix w x S fp n' := by
  obtain ⟨pb, m, L, rfl, h⟩ := h
  exact ⟨pb, m, L, rfl, h.mono hn⟩

def NewPost (w : World) (e : Ending) (w' : World) : Prop := ∃ x fp, e = .returned (.pointer (some ⟨x, 0, none⟩)) ∧ Ix w' x [] fp 0 ∧ (∀ i ∈ fp, w.heap.size ≤ i) ∧ Below w.heap.size w w'

theorem new_any (w : World) : Calls Try.prog 10 #[] w (NewPost w) := by
  have hmm := @run_makeMap Try.prog
  go_enter Try.func10, Try.ntmps10
  go_wp2
  go_ret
  refine ⟨w.heap.size + 1 + 1 + 1, foot (w.heap.size + 1 + 1 + 1) w.heap.size (fun s => if s = 0 then w.heap.size + 1 else w.heap.size + 1 + 1) (fun _ => []), rfl, ⟨_, _, _, rfl, ?_⟩, ?_, ?_⟩
  · have a0 := MapOf.made (P := Try.prog) (k := 48) (ek := pv) (ev := tv) w
    have a1 := MapOf.made (P := Try.prog) (k := 9) (ek := Value.string) (ev := mv) (w.alloc (.map #[] 0))
    have a2 := MapOf.made (P := Try.prog) (k := 9) (ek := Value.string) (ev := mv) ((w.alloc (.map #[] 0)).alloc (.map #[] 0))
    have e1 : (w.alloc (.map #[] 0)).heap.size = w.heap.size + 1 := by simp
    have e2 : ((w.alloc (.map #[] 0)).alloc (.map #[] 0)).heap.size = w.heap.size + 1 + 1 := by simp
    rw [e1] at a1
    rw [e2] at a2
    have keep : ∀ (W : World) (o : Obj) (i : Nat), i < W.heap.size → (W.alloc o).heap[i]? = W.heap[i]? := fun W o i hi => Below.heap_alloc W o i hi
    refine ⟨?_, ?_, fun s hs => ⟨?_, fun n r hr => by simp at hr, fun p hp => by simp at hp⟩, by unfold foot; simp; omega, ⟨by simp, by simp⟩, by simp⟩
    · have := heap_alloc_new (((w.alloc (.map #[] 0)).alloc (.map #[] 0)).alloc (.map #[] 0)) (.cells #[.map (some w.heap.size), .map (some (w.heap.size + 1)), .map (some (w.heap.size + 1 + 1))] 46)
      have e3 : (((w.alloc (.map #[] 0)).alloc (.map #[] 0)).alloc (.map #[] 0)).heap.size = w.heap.size + 1 + 1 + 1 := by simp
      rw [e3] at this
      exact this
    · exact ((a0.frame (keep _ (.map #[] 0) _ (by simp))).frame (keep _ (.map #[] 0) _ (by simp; omega))).frame (keep _ _ _ (by simp; omega))
    · rcases (show s = 0 ∨ s = 1 by omega) with rfl | rfl
      · exact (a1.frame (keep _ (.map #[] 0) _ (by simp))).frame (keep _ _ _ (by simp))
      · exact a2.frame (keep _ _ _ (by simp))
  · intro i hi
    unfold foot at hi
    simp at hi
    rcases hi with rfl | rfl | rfl | rfl <;> omega
  · exact ((((Below.refl _ _).alloc (Nat.le_refl _) _).alloc (by simp) _).alloc (by simp; omega) _).alloc (by simp; omega) _

theorem len_nil (w : World) : Calls Try.prog 17 #[.pointer none] w fun e w' => e = .returned (.int .i64 0) ∧ w = w' := by
  go_enter Try.func17, Try.ntmps17
  go_wp2
  go_ret
  exact ⟨rfl, rfl⟩
theorem len_any {w : World} {x : Nat} {S : List Pr} {fp : List Nat} {n : Nat} (h : Ix w x S fp n) : Calls Try.prog 17 #[.pointer (some ⟨x, 0, none⟩)] w fun e w' => e = .returned (.int .i64 (S.length : Int)) ∧ w = w' := by
  obtain ⟨pb, m, L, rfl, h⟩ := h
  have hc : w.cell? ⟨x, 0, none⟩ = some (.map (some pb)) := cell_of_block h.cell
  have hl := fun ty => h.pairs.len (t := 42) Try.underlying42 ty
  simp only [List.length_map] at hl
  clear h
  go_enter Try.func17, Try.ntmps17
  go_wp2
  go_ret
  exact ⟨rfl, rfl⟩
theorem has_nil (a b : ByteArray) (w : World) : Calls Try.prog 13 #[.pointer none, .string a, .string b] w fun e w' => e = .returned (.bool false) ∧ w = w' := by
  go_enter Try.func13, Try.ntmps13
  go_wp2
  go_ret
  exact ⟨rfl, rfl⟩
theorem pair_look {w : World} {pb : Nat} {S : List Pr} (h : PMap w pb S) (p : Pr) (h1 : sz p.1) (h2 : sz p.2) : (Instr.lookup 42 (.map (some pb)) (.agg #[.string p.1, .string p.2]) false).run Try.prog w = .ok (.bool (hasP S p)) w := by
  have := h.lookup (t := 42) pairKeyed Try.underlying42 pv_inj (zeroBool w) (pairKey p h1 h2).choose_spec
  rw [look_pairs] at this
  cases hh : hasP S p
  · rw [hh] at this; exact this
  · rw [hh] at this; exact this
theorem has_any {w : World} {x : Nat} {S : List Pr} {fp : List Nat} {n : Nat} (h : Ix w x S fp n) (a b : ByteArray) (ha : sz a) (hb : sz b) : Calls Try.prog 13 #[.pointer (some ⟨x, 0, none⟩), .string a, .string b] w fun e w' => e = .returned (.bool (hasP S (a, b))) ∧ w = w' := by
  obtain ⟨pb, m, L, rfl, h⟩ := h
  have hc : w.cell? ⟨x, 0, none⟩ = some (.map (some pb)) := cell_of_block h.cell
  have hl := pair_look h.pairs (a, b) ha hb
  clear h
  go_enter Try.func13, Try.ntmps13
  go_wp2
  go_ret
  exact ⟨rfl, rfl⟩

def SetPost (w : World) (x : Nat) (S : List Pr) (fp : List Nat) (n : Nat) (p : Pr) (on : Bool) (e : Ending) (w' : World) : Prop :=
  e = .returned (.bool (hasP S p != on)) ∧ ∃ fp' n', Ix w' x (setS S p on) fp' n' ∧ (n' ≤ n ∨ (p ∉ S ∧ n' ≤ n + 2)) ∧ (∀ i ∈ fp', i ∈ fp ∨ w.heap.size ≤ i) ∧ Mods w w' fp
theorem turn_ix {w : World} {x : Nat} {S : List Pr} {fp : List Nat} {n : Nat} (h : Ix w x S fp n) (p : Pr) (on : Bool) (hroom : n + 3 < maxLen) (h1 : sz p.1) (h2 : sz p.2) :
    Calls Try.prog 25 #[.pointer (some ⟨x, 0, none⟩), .agg #[.string p.1, .string p.2], .bool on] w fun e w' => e = .returned (.tuple #[]) ∧ ∃ fp' n', Ix w' x (setS S p on) fp' n' ∧ (n' ≤ n ∨ (p ∉ S ∧ n' ≤ n + 2)) ∧ (∀ i ∈ fp', i ∈ fp ∨ w.heap.size ≤ i) ∧ Mods w w' fp := by
  obtain ⟨pb, m, L, rfl, h⟩ := h
  exact (turn_any x pb S m L n p on w h hroom h1 h2).mono fun e w' ⟨he, L', n', ht⟩ => ⟨he, _, n', ⟨pb, m, L', rfl, ht.ix⟩, ht.room, ht.own, ht.mods⟩
theorem set_nil (a b : ByteArray) (on : Bool) (w : World) : Calls Try.prog 11 #[.pointer none, .string a, .string b, .bool on] w fun e w' => e = .returned (.bool false) ∧ w = w' := by
  go_enter Try.func11, Try.ntmps11
  go_wp2
  go_ret
  exact ⟨rfl, rfl⟩
theorem set_same {S : List Pr} {p : Pr} {on : Bool} (h : hasP S p = on) : setS S p on = S := by
  unfold setS
  cases on
  · simp only [Bool.false_eq_true, if_false]
    rw [List.filter_eq_self]
    intro q hq
    have := hasP_not.1 h
    simp only [Bool.not_eq_true', decide_eq_false_iff_not]
    intro e
    exact this (e ▸ hq)
  · simp [h]
theorem set_any {w : World} {x : Nat} {S : List Pr} {fp : List Nat} {n : Nat} (h : Ix w x S fp n) (a b : ByteArray) (on : Bool) (hroom : n + 3 < maxLen) (ha : sz a) (hb : sz b) :
    Calls Try.prog 11 #[.pointer (some ⟨x, 0, none⟩), .string a, .string b, .bool on] w (SetPost w x S fp n (a, b) on) := by
  have ht := turn_ix h (a, b) on hroom ha hb
  have hfin : hasP S (a, b) = on → SetPost w x S fp n (a, b) on (.returned (.bool false)) w := fun e => by
    refine ⟨by rw [e]; simp, fp, n, ?_, .inl (Nat.le_refl _), fun i hi => .inl hi, Mods.refl _ _⟩
    rw [set_same e]
    exact h
  obtain ⟨pb, m, L, rfl, h⟩ := h
  have hc : w.cell? ⟨x, 0, none⟩ = some (.map (some pb)) := cell_of_block h.cell
  have hl := pair_look h.pairs (a, b) ha hb
  have HF := Lib.hid hfin
  have HT := Lib.hid ht
  clear h ht hfin
  cases hv : hasP S (a, b) <;> cases on <;> rw [hv] at hl
  all_goals
    have Hv := Lib.hid hv
    clear hv
    go_enter Try.func11, Try.ntmps11
    go_wp2_with fail
  · go_ret
    exact HF.out Hv.out
  · refine HT.out.mono ?_
    rintro e w' ⟨rfl, hx⟩
    have HX := Lib.hid hx
    clear hx
    go_wp2
    go_ret
    exact ⟨by rw [Hv.out]; rfl, HX.out⟩
  · refine HT.out.mono ?_
    rintro e w' ⟨rfl, hx⟩
    have HX := Lib.hid hx
    clear hx
    go_wp2
    go_ret
    exact ⟨by rw [Hv.out]; rfl, HX.out⟩
  · go_ret
    exact HF.out Hv.out

end Go.Proofs.Ytnpkjkhlbdkclaa
