/- IndexBoth: the plain law: those on the other side of each name's pairs, counted over all names, are as many as there are pairs. No program. Condition: no pair twice, no name twice. -/
import Derived.Test.YtnpkjkhlbdkclaaOpsFew
set_option linter.unusedSimpArgs false
set_option linter.unusedVariables false
namespace Go.Proofs.Ytnpkjkhlbdkclaa
open Go.RowKit Go.Maps Go.MapKept Go.Proofs.YtnpkjkhlbdkclaaW.PrintWords Go.Proofs.Ytnpkjkhlbdkclaa.PIndexScripts

/-- All names of calls, as they come. -/
def namesOf (l : List Opn) : List ByteArray := l.flatMap (fun o => [o.f1, o.f2])
theorem namesOf_take {l : List Opn} {k : Nat} {o : Opn} (hk : k < l.length) (ho : l[k] = o) : namesOf (l.take (k + 1)) = namesOf (l.take k) ++ [o.f1, o.f2] := by
  unfold namesOf
  rw [List.take_succ_eq_append_getElem hk, List.flatMap_append, ho]
  simp
theorem namesOf_len (l : List Opn) : (namesOf l).length = 2 * l.length := by
  unfold namesOf
  induction l with
  | nil => rfl
  | cons o r ih => rw [List.flatMap_cons, List.length_append, ih]; simp; omega

theorem nodup_len {α : Type} : ∀ (T S : List α), T.Nodup → (∀ q ∈ T, q ∈ S) → T.length ≤ S.length
  | [], S, _, _ => by simp
  | q :: r, S, hn, hm => by
    obtain ⟨h1, h2⟩ := List.nodup_cons.1 hn
    obtain ⟨s1, s2, rfl⟩ := List.append_of_mem (hm q (by simp))
    have := nodup_len r (s1 ++ s2) h2 (fun x hx => by
      have hx1 := hm x (by simp [hx])
      rw [List.mem_append, List.mem_cons] at hx1
      rw [List.mem_append]
      rcases hx1 with h | h | h
      · exact .inl h
      · subst h; exact absurd hx h1
      · exact .inr h)
    simp at this ⊢
    omega
theorem mergeN_len {l : List ByteArray} (h : l.Nodup) : (mergeN l).length = l.length :=
  Nat.le_antisymm (length_mergeN l) (nodup_len l _ h (fun q hq => mergeN_mem.2 hq))
theorem side_inj {s : Nat} (hs : s < 2) {p q : Pr} (h1 : sideName s p = sideName s q) (h2 : sideName (1 - s) p = sideName (1 - s) q) : p = q := by
  obtain ⟨a, b⟩ := p
  obtain ⟨c, d⟩ := q
  rcases (show s = 0 ∨ s = 1 by omega) with rfl | rfl
  · simp [sideName] at h1 h2
    rw [h1, h2]
  · simp [sideName] at h1 h2
    rw [h1, h2]
theorem others_count {S : List Pr} (hS : S.Nodup) {s : Nat} (hs : s < 2) (nm : ByteArray) : (othersS S s nm).length = (S.filter (fun p => decide (sideName s p = nm))).length := by
  unfold othersS
  rw [mergeN_len, List.length_map]
  unfold List.Nodup
  rw [List.pairwise_map]
  have h := List.Pairwise.filter (fun p => decide (sideName s p = nm)) hS
  refine List.Pairwise.imp_of_mem (fun {a b} ha hb hab e => hab ?_) h
  have h1 := (List.mem_filter.1 ha).2
  have h2 := (List.mem_filter.1 hb).2
  simp only [decide_eq_true_eq] at h1 h2
  exact side_inj hs (h1.trans h2.symm) e
theorem sum_add (N : List ByteArray) (f g : ByteArray → Nat) : (N.map (fun n => f n + g n)).sum = (N.map f).sum + (N.map g).sum := by
  induction N with
  | nil => rfl
  | cons a r ih => simp only [List.map_cons, List.sum_cons, ih]; omega
theorem sum_none (a : ByteArray) : ∀ (N : List ByteArray), a ∉ N → (N.map (fun n => if a = n then 1 else 0)).sum = 0
  | [], _ => rfl
  | b :: r, h => by
    rw [List.map_cons, List.sum_cons, sum_none a r (fun hr => h (by simp [hr])), if_neg (fun e => h (by simp [e]))]
theorem sum_one (a : ByteArray) : ∀ (N : List ByteArray), N.Nodup → a ∈ N → (N.map (fun n => if a = n then 1 else 0)).sum = 1
  | b :: r, hn, hm => by
    obtain ⟨h1, h2⟩ := List.nodup_cons.1 hn
    rw [List.map_cons, List.sum_cons]
    by_cases e : a = b
    · subst e
      rw [if_pos rfl, sum_none a r h1]
    · rw [if_neg e, sum_one a r h2 (by rcases List.mem_cons.1 hm with h | h; exact absurd h e; exact h)]
theorem sum_filter (N : List ByteArray) (hN : N.Nodup) (s : Nat) : ∀ (S : List Pr), (∀ p ∈ S, sideName s p ∈ N) → (N.map (fun n => (S.filter (fun p => decide (sideName s p = n))).length)).sum = S.length
  | [], _ => by
    induction N with
    | nil => rfl
    | cons a r ih => rw [List.map_cons, List.sum_cons, ih (List.nodup_cons.1 hN).2 (fun p hp => by cases hp)]; rfl
  | p :: S, h => by
    have ih := sum_filter N hN s S (fun q hq => h q (by simp [hq]))
    have e : (fun n => ((p :: S).filter (fun p => decide (sideName s p = n))).length) = (fun n => (if sideName s p = n then 1 else 0) + (S.filter (fun p => decide (sideName s p = n))).length) := by
      funext n
      rw [List.filter_cons]
      by_cases e : sideName s p = n
      · rw [if_pos (by simpa using e), if_pos e, List.length_cons]; omega
      · rw [if_neg (by simpa using e), if_neg e]; omega
    rw [e, sum_add, ih, sum_one _ N hN (h p (by simp)), List.length_cons]
    omega
/-- Those on the other side, counted over names. -/
def sumO (S : List Pr) (s : Nat) (N : List ByteArray) : Nat := (N.map (fun n => (othersS S s n).length)).sum
theorem sumO_all {S : List Pr} (hS : S.Nodup) {N : List ByteArray} (hN : N.Nodup) {s : Nat} (hs : s < 2) (hc : ∀ p ∈ S, sideName s p ∈ N) : sumO S s N = S.length := by
  rw [← sum_filter N hN s S hc]
  unfold sumO
  congr 2
  funext n
  exact others_count hS hs n
theorem sumO_take {S : List Pr} {s : Nat} {N : List ByteArray} {i : Nat} {nm : ByteArray} (hi : i < N.length) (hn : N[i] = nm) : sumO S s (N.take (i + 1)) = sumO S s (N.take i) + (othersS S s nm).length := by
  unfold sumO
  rw [List.take_succ_eq_append_getElem hi, List.map_append, List.sum_append, hn]
  simp
theorem sumO_le (S : List Pr) (s : Nat) (N : List ByteArray) : sumO S s N ≤ N.length * S.length := by
  unfold sumO
  induction N with
  | nil => simp
  | cons a r ih =>
    rw [List.map_cons, List.sum_cons, List.length_cons, Nat.succ_mul]
    have := othersS_len S s a
    omega
theorem others_has {S : List Pr} {s : Nat} (hs : s < 2) {nm y : ByteArray} (h : y ∈ othersS S s nm) : hasP S (if s = 0 then (nm, y) else (y, nm)) = true := by
  unfold othersS at h
  rw [mergeN_mem, List.mem_map] at h
  obtain ⟨p, hp, rfl⟩ := h
  obtain ⟨h1, h2⟩ := List.mem_filter.1 hp
  simp only [decide_eq_true_eq] at h2
  subst h2
  rw [hasP_iff]
  obtain ⟨a, b⟩ := p
  rcases (show s = 0 ∨ s = 1 by omega) with rfl | rfl
  · simpa [sideName] using h1
  · simpa [sideName] using h1
theorem others_rise {S : List Pr} {s : Nat} {nm : ByteArray} {i j : Nat} (hij : i < j) (hj : j < (othersS S s nm).length) : ltN (othersS S s nm)[i] (othersS S s nm)[j] = true :=
  List.pairwise_iff_getElem.1 (show Rising (othersS S s nm) from mergeN_rising _) i j (by omega) hj hij
theorem set_cov {S : List Pr} {N : List ByteArray} (h : ∀ p ∈ S, p.1 ∈ N ∧ p.2 ∈ N) (p : Pr) (on : Bool) : ∀ q ∈ setS S p on, q.1 ∈ N ++ [p.1, p.2] ∧ q.2 ∈ N ++ [p.1, p.2] := fun q hq => by
  rw [mem_setS] at hq
  split at hq
  · rename_i e
    subst e
    simp
  · have := h q hq
    simp [this]
theorem forget_cov {S : List Pr} {N : List ByteArray} (h : ∀ p ∈ S, p.1 ∈ N ∧ p.2 ∈ N) (u a b : ByteArray) : ∀ q ∈ forgetS S u 2, q.1 ∈ N ++ [a, b] ∧ q.2 ∈ N ++ [a, b] := fun q hq => by
  unfold forgetS at hq
  have := h q (List.mem_filter.1 hq).1
  simp [this]
end Go.Proofs.Ytnpkjkhlbdkclaa
