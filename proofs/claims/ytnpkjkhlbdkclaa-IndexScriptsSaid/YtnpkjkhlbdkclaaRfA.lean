/- The document's own Index in memory: a list of pairs; Has. Condition: none. -/
import Derived.Test.YtnpkjkhlbdkclaaOpsFew
set_option linter.unusedSimpArgs false
set_option linter.unusedVariables false
namespace Go.Proofs.Ytnpkjkhlbdkclaa
open Go.RowKit Go.Maps Go.MapKept Go.Proofs.YtnpkjkhlbdkclaaW.PrintWords Go.Proofs.Ytnpkjkhlbdkclaa.PIndexScripts

/-- Pairs as cells. -/
def prc (S : List Pr) : List Value := S.flatMap (fun p => [.string p.1, .string p.2])
theorem prc_append (S T : List Pr) : prc (S ++ T) = prc S ++ prc T := by unfold prc; rw [List.flatMap_append]
theorem prc_len (S : List Pr) : (prc S).length = S.length * 2 := by
  unfold prc
  induction S with
  | nil => rfl
  | cons p r ih => rw [List.flatMap_cons, List.length_append, ih]; simp; omega
theorem prc_at : ∀ (S : List Pr) (i : Nat) (h : i < S.length), (prc S)[i * 2]? = some (.string S[i].1) ∧ (prc S)[i * 2 + 1]? = some (.string S[i].2)
  | p :: r, 0, _ => ⟨rfl, rfl⟩
  | p :: r, i + 1, h => by
    have ih := prc_at r i (by simpa using h)
    have e : prc (p :: r) = .string p.1 :: .string p.2 :: prc r := by unfold prc; rw [List.flatMap_cons]; rfl
    rw [e, show (i + 1) * 2 = i * 2 + 1 + 1 by omega]
    exact ih
theorem info47 : (Try.prog.info? 47).map (fun i => (i.zero, i.size, i.bytes)) = some (some (.agg #[.string ⟨#[]⟩, .string ⟨#[]⟩]), 2, 32) := by kernel_rfl

/-- The cells of a list that the call has made. -/
theorem own_at {w : World} {base : Nat} {v : Value} {S : List Pr} (h : w.ownsRow base 47 2 v S.length (prc S)) : ∃ A c, v = .slice A S.length c ∧ ∀ i (hi : i < S.length), ∃ g, A = some ⟨g, 0, none⟩ ∧ w.cell? ⟨g, i * 2, none⟩ = some (.string S[i].1) ∧ w.cell? ⟨g, i * 2 + 1, none⟩ = some (.string S[i].2) := by
  rcases h.2 with ⟨h, h2⟩ | ⟨g, cap, cur, rfl, _, hh, h2, _, hsz, htk⟩
  · exact ⟨none, 0, by rw [h, h2], fun i hi => by omega⟩
  · refine ⟨_, _, rfl, fun i hi => ⟨g, rfl, ?_, ?_⟩⟩
    · rw [cell_of_block hh]
      have := (prc_at S i hi).1
      rw [← htk, List.getElem?_take] at this
      rw [if_pos (by omega)] at this
      simpa using this
    · rw [cell_of_block hh]
      have := (prc_at S i hi).2
      rw [← htk, List.getElem?_take] at this
      rw [if_pos (by omega)] at this
      simpa using this

/-- The blocks of the document's Index. -/
def fr (r : Nat) (v : Value) : List Nat := r :: v.ownBlock.toList
/-- The document's Index, among what was made since w0. -/
structure Rf (w0 w : World) (r : Nat) (S : List Pr) (v : Value) : Prop where
  cell : w.heap[r]? = some (.cells #[v] 30 (0, 0))
  own : w.ownsRow w0.heap.size 47 2 v S.length (prc S)
  ne : ∀ g, v.ownBlock = some g → g ≠ r
  ge : w0.heap.size ≤ r
  b : Below w0.heap.size w0 w

theorem mem_fr {r : Nat} {v : Value} {i : Nat} : i ∈ fr r v ↔ i = r ∨ v.ownBlock = some i := by
  unfold fr
  rw [List.mem_cons]
  cases v.ownBlock with
  | none => simp
  | some g => simp [eq_comm]
theorem Rf.lt {w0 w : World} {r : Nat} {S : List Pr} {v : Value} (h : Rf w0 w r S v) : ∀ i ∈ fr r v, i < w.heap.size := fun i hi => by
  rcases mem_fr.1 hi with rfl | hi
  · exact (Array.getElem?_eq_some_iff.1 h.cell).1
  · exact own_lt h.own i hi
theorem Rf.ge_ {w0 w : World} {r : Nat} {S : List Pr} {v : Value} (h : Rf w0 w r S v) : ∀ i ∈ fr r v, w0.heap.size ≤ i := fun i hi => by
  rcases mem_fr.1 hi with rfl | hi
  · exact h.ge
  · exact own_base h.own i hi
theorem Rf.frame {w0 w w' : World} {r : Nat} {S : List Pr} {v : Value} (h : Rf w0 w r S v) (hf : ∀ i ∈ fr r v, w'.heap[i]? = w.heap[i]?) (hb : Below w0.heap.size w0 w') : Rf w0 w' r S v :=
  ⟨(hf r (mem_fr.2 (.inl rfl))).trans h.cell, own_move h.own (fun g hg => hf g (mem_fr.2 (.inr hg))), h.ne, h.ge, hb⟩
theorem Rf.below {w0 w w' : World} {r : Nat} {S : List Pr} {v : Value} (h : Rf w0 w r S v) (hb : Below w.heap.size w w') : Rf w0 w' r S v :=
  h.frame (fun i hi => hb.block i (h.lt i hi)) (h.b.trans (hb.mono h.b.size))
theorem Rf.other {w0 w w' : World} {r : Nat} {S : List Pr} {v : Value} {fp2 fp2' : List Nat} (h : Rf w0 w r S v) (hs : Step w w' fp2 fp2') (h2 : ∀ i ∈ fp2, w0.heap.size ≤ i) (hd : ∀ i ∈ fr r v, i ∉ fp2) : Rf w0 w' r S v ∧ ∀ i ∈ fr r v, i ∉ fp2' :=
  ⟨h.frame (fun i hi => hs.mods.block i (h.lt i hi) (hd i hi)) (h.b.trans (hs.mods.below h.b.size h2)), fun i hi hm => by
    rcases hs.own i hm with h1 | h1
    · exact hd i hi h1
    · have := h.lt i hi
      omega⟩
theorem Rf.new {w0 w : World} (hb : Below w0.heap.size w0 w) : Rf w0 (w.alloc (.cells #[.slice none 0 0] 30)) w.heap.size [] (.slice none 0 0) :=
  ⟨heap_alloc_new w _, ⟨rfl, .inl ⟨rfl, rfl⟩⟩, fun g hg => by simp [Value.ownBlock] at hg, hb.size, hb.alloc hb.size _⟩

theorem hasP_take {S : List Pr} {p : Pr} {i : Nat} (hi : i < S.length) : hasP (S.take (i + 1)) p = (hasP (S.take i) p || decide (S[i] = p)) := by
  unfold hasP
  rw [List.take_succ_eq_append_getElem hi, List.any_append]
  simp

set_option maxHeartbeats 2000000 in
set_option maxRecDepth 100000 in
theorem rf_has {w0 w : World} {r : Nat} {S : List Pr} {v : Value} (h : Rf w0 w r S v) (hS : S.length ≤ 100000) (a b : ByteArray) :
    Calls Try.prog 14 #[.pointer (some ⟨r, 0, none⟩), .string a, .string b] w fun e w' => e = .returned (.bool (hasP S (a, b))) ∧ w = w' := by
  obtain ⟨A, c, rfl, hat⟩ := own_at h.own
  have hc : w.cell? ⟨r, 0, none⟩ = some (.slice A S.length c) := cell_of_block h.cell
  have HAT := Lib.hid hat
  clear hat h
  go_enter Try.func14, Try.ntmps14
  go_wp2_with fail
  go_loop [7] (fun iv => ∃ i : Nat, i ≤ S.length ∧ iv = .int .i64 i ∧ Hid (hasP (S.take i) (a, b) = false)) (fun iv => S.length - (intOf iv).toNat)
  case atStart => exact ⟨0, by omega, rfl, Lib.hid rfl⟩
  case round =>
    obtain ⟨i, hi, rfl, HN⟩ := hrel
    by_cases hil : i < S.length
    · have hil' : (i : Int) < (S.length : Int) := by omega
      have hi0 : (0 : Int) ≤ i := by omega
      obtain ⟨g, rfl, c0, c1⟩ := HAT.out i hil
      have HT := Lib.hid (hasP_take (p := (a, b)) hil)
      obtain ⟨p, hp⟩ : ∃ p, S[i] = p := ⟨_, rfl⟩
      rw [hp] at c0 c1 HT
      have HM := Lib.hid (show p ∈ S from by rw [← hp]; exact List.getElem_mem hil)
      clear hp
      obtain ⟨y, z⟩ := p
      simp only at c0 c1
      by_cases h1 : y = a
      · have t1 := teq h1
        have t2 := teq' h1
        by_cases h2 : z = b
        · have t3 := teq h2
          have t4 := teq' h2
          have HR := Lib.hid (show hasP S (a, b) = true from by rw [← h1, ← h2, hasP_iff]; exact HM.out)
          clear h1 h2
          go_wp2_with fail
          go_ret
          exact ⟨by rw [HR.out]; rfl, rfl⟩
        · have t3 := tne h2
          have t4 := tne' h2
          have HX := Lib.hid (show hasP (S.take (i + 1)) (a, b) = false from by rw [HT.out, HN.out]; simp [h2])
          clear h1 h2
          go_wp2_with fail
          go_round
          case rel => exact ⟨i + 1, by omega, by go_num, HX⟩
          case measure => simp [intOf]; omega
      · have t1 := tne h1
        have t2 := tne' h1
        have HX := Lib.hid (show hasP (S.take (i + 1)) (a, b) = false from by rw [HT.out, HN.out]; simp [h1])
        clear h1
        go_wp2_with fail
        go_round
        case rel => exact ⟨i + 1, by omega, by go_num, HX⟩
        case measure => simp [intOf]; omega
    · have he : i = S.length := by omega
      subst he
      have HX := Lib.hid (show hasP S (a, b) = false from by have := HN.out; rwa [List.take_length] at this)
      go_wp2_with fail
      go_ret
      exact ⟨by rw [HX.out]; rfl, rfl⟩
end Go.Proofs.Ytnpkjkhlbdkclaa
