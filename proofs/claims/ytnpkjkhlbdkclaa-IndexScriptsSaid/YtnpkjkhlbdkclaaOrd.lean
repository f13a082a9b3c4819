/- Names' order, and merging: a list put together by it, each once. Plain lists; no program. No condition. -/
import Derived.Lib.Strings
import Derived.Laws.Strings
set_option linter.unusedSimpArgs false
set_option linter.unusedVariables false
namespace Go.Proofs.Ytnpkjkhlbdkclaa
open Go

/-- Bytes as a list of numbers. -/
def bl (s : ByteArray) : List UInt8 := s.data.toList
theorem bl_inj {a b : ByteArray} (h : bl a = bl b) : a = b := by
  cases a; cases b
  simp [bl] at h
  rw [h]
theorem bl_length (a : ByteArray) : (bl a).length = a.size := rfl

/-- One text stands ahead of another one: shorter; or of one length, and less. -/
def ltN (a b : ByteArray) : Bool := decide (a.size < b.size) || (decide (a.size = b.size) && decide (bl a < bl b))

theorem ltN_iff {a b : ByteArray} : ltN a b = true ↔ a.size < b.size ∨ (a.size = b.size ∧ bl a < bl b) := by
  unfold ltN
  simp
theorem ltN_irrefl (a : ByteArray) : ltN a a = false := by
  rw [Bool.eq_false_iff]
  intro h
  rcases ltN_iff.1 h with h | ⟨_, h⟩
  · omega
  · exact List.lt_irrefl _ h
theorem ltN_trans {a b c : ByteArray} (h1 : ltN a b = true) (h2 : ltN b c = true) : ltN a c = true := by
  rw [ltN_iff] at *
  rcases h1 with h1 | ⟨h1, h3⟩
  · rcases h2 with h2 | ⟨h2, _⟩
    · exact .inl (by omega)
    · exact .inl (by omega)
  · rcases h2 with h2 | ⟨h2, h4⟩
    · exact .inl (by omega)
    · exact .inr ⟨by omega, List.lt_trans h3 h4⟩
theorem ltN_total {a b : ByteArray} (h : a ≠ b) : ltN a b = true ∨ ltN b a = true := by
  rw [ltN_iff, ltN_iff]
  rcases Nat.lt_trichotomy a.size b.size with h1 | h1 | h1
  · exact .inl (.inl h1)
  · have hne : bl a ≠ bl b := fun e => h (bl_inj e)
    by_cases h2 : bl a < bl b
    · exact .inl (.inr ⟨h1, h2⟩)
    · refine .inr (.inr ⟨h1.symm, ?_⟩)
      have h3 : bl b ≤ bl a := List.not_lt.1 h2
      rcases List.le_iff_lt_or_eq.1 h3 with h4 | h4
      · exact h4
      · exact absurd h4.symm hne
  · exact .inr (.inl h1)
theorem ltN_asymm {a b : ByteArray} (h : ltN a b = true) : ltN b a = false := by
  rw [Bool.eq_false_iff]
  intro h2
  have := ltN_trans h h2
  rw [ltN_irrefl] at this
  cases this

/-- Rising: each ahead of all behind it. -/
abbrev Rising (l : List ByteArray) : Prop := l.Pairwise (fun a b => ltN a b = true)

theorem rising_ext : ∀ {l l' : List ByteArray}, Rising l → Rising l' → (∀ x, x ∈ l ↔ x ∈ l') → l = l'
  | [], [], _, _, _ => rfl
  | [], y :: r, _, _, h => absurd ((h y).2 (by simp)) (by simp)
  | x :: r, [], _, _, h => absurd ((h x).1 (by simp)) (by simp)
  | x :: r, y :: s, h1, h2, h => by
    obtain ⟨a1, a2⟩ := List.pairwise_cons.1 h1
    obtain ⟨b1, b2⟩ := List.pairwise_cons.1 h2
    have hxy : x = y := by
      rcases List.mem_cons.1 ((h x).1 (by simp)) with e | hx
      · exact e
      · rcases List.mem_cons.1 ((h y).2 (by simp)) with e | hy
        · exact e.symm
        · have h3 := b1 x hx
          have h4 := a1 y hy
          rw [ltN_asymm h3] at h4
          cases h4
    subst hxy
    congr 1
    refine rising_ext a2 b2 (fun z => ⟨fun hz => ?_, fun hz => ?_⟩)
    · rcases List.mem_cons.1 ((h z).1 (by simp [hz])) with e | hz'
      · subst e; have := a1 z hz; rw [ltN_irrefl] at this; cases this
      · exact hz'
    · rcases List.mem_cons.1 ((h z).2 (by simp [hz])) with e | hz'
      · subst e; have := b1 z hz; rw [ltN_irrefl] at this; cases this
      · exact hz'

/-- A text into a rising list, once. -/
def putN : List ByteArray → ByteArray → List ByteArray
  | [], s => [s]
  | x :: r, s => if ltN x s = true then x :: putN r s else if x = s then x :: r else s :: x :: r

theorem putN_mem {l : List ByteArray} {s x : ByteArray} : x ∈ putN l s ↔ x ∈ l ∨ x = s := by
  induction l with
  | nil => simp [putN]
  | cons y r ih =>
    unfold putN
    split
    · simp [ih, or_assoc]
    · split
      · rename_i h; subst h; simp only [List.mem_cons]; exact ⟨fun h => .inl h, fun h => h.elim id .inl⟩
      · simp only [List.mem_cons]; constructor
        · rintro (h | h | h)
          · exact .inr h
          · exact .inl (.inl h)
          · exact .inl (.inr h)
        · rintro ((h | h) | h)
          · exact .inr (.inl h)
          · exact .inr (.inr h)
          · exact .inl h
theorem putN_rising {l : List ByteArray} (s : ByteArray) (h : Rising l) : Rising (putN l s) := by
  induction l with
  | nil => simp [putN, Rising]
  | cons y r ih =>
    obtain ⟨a1, a2⟩ := List.pairwise_cons.1 h
    unfold putN
    split
    · rename_i hy
      refine List.pairwise_cons.2 ⟨fun z hz => ?_, ih a2⟩
      rcases putN_mem.1 hz with hz | rfl
      · exact a1 z hz
      · exact hy
    · split
      · exact h
      · rename_i h1 h2
        have hsy : ltN s y = true := by
          rcases ltN_total h2 with h3 | h3
          · exact absurd h3 h1
          · exact h3
        refine List.pairwise_cons.2 ⟨fun z hz => ?_, h⟩
        rcases List.mem_cons.1 hz with rfl | hz
        · exact hsy
        · exact ltN_trans hsy (a1 z hz)

/-- All texts of a list, each once, by the order. -/
def mergeN (l : List ByteArray) : List ByteArray := l.foldl putN []
theorem foldl_putN : ∀ (l acc : List ByteArray), Rising acc → Rising (l.foldl putN acc) ∧ ∀ x, x ∈ l.foldl putN acc ↔ x ∈ acc ∨ x ∈ l
  | [], acc, h => ⟨h, by simp⟩
  | y :: r, acc, h => by
    obtain ⟨h1, h2⟩ := foldl_putN r (putN acc y) (putN_rising y h)
    refine ⟨h1, fun x => ?_⟩
    rw [List.foldl_cons, h2 x, putN_mem, List.mem_cons, or_assoc]
theorem mergeN_rising (l : List ByteArray) : Rising (mergeN l) := (foldl_putN l [] List.Pairwise.nil).1
theorem mergeN_mem {l : List ByteArray} {x : ByteArray} : x ∈ mergeN l ↔ x ∈ l := by
  have := (foldl_putN l [] List.Pairwise.nil).2 x
  simpa [mergeN] using this
theorem mergeN_ext {l l' : List ByteArray} (h : ∀ x, x ∈ l ↔ x ∈ l') : mergeN l = mergeN l' :=
  rising_ext (mergeN_rising l) (mergeN_rising l') (fun x => by rw [mergeN_mem, mergeN_mem, h x])
theorem mergeN_unique {l r : List ByteArray} (h : Rising r) (hm : ∀ x, x ∈ r ↔ x ∈ l) : r = mergeN l :=
  rising_ext h (mergeN_rising l) (fun x => by rw [mergeN_mem, hm x])
theorem mergeN_append (a b : List ByteArray) : mergeN (a ++ b) = b.foldl putN (mergeN a) := by
  unfold mergeN
  rw [List.foldl_append]
theorem nodup_of_rising {l : List ByteArray} (h : Rising l) : l.Nodup := h.imp (fun {a b} hab e => by rw [e, ltN_irrefl] at hab; cases hab)
theorem length_putN (l : List ByteArray) (s : ByteArray) : (putN l s).length ≤ l.length + 1 := by
  induction l with
  | nil => simp [putN]
  | cons y r ih =>
    unfold putN
    split
    · simp; omega
    · split <;> simp
theorem length_foldl_putN : ∀ (l acc : List ByteArray), (l.foldl putN acc).length ≤ acc.length + l.length
  | [], acc => by simp
  | y :: r, acc => by
    have := length_foldl_putN r (putN acc y)
    have h2 := length_putN acc y
    rw [List.foldl_cons, List.length_cons]
    omega
theorem length_mergeN (l : List ByteArray) : (mergeN l).length ≤ l.length := by
  have := length_foldl_putN l []
  simpa [mergeN] using this

end Go.Proofs.Ytnpkjkhlbdkclaa
