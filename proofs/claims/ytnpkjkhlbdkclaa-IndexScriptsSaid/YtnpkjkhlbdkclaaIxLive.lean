/- live: the document's own examples of an Index are so. No condition. -/
import Derived.Test.YtnpkjkhlbdkclaaIxForget
import Derived.Test.YtnpkjkhlbdkclaaIdMerge
import Derived.Test.YtnpkjkhlbdkclaaRefIdent
set_option linter.unusedSimpArgs false
set_option linter.unusedVariables false
namespace Go.Proofs.Ytnpkjkhlbdkclaa
open Go.RowKit Go.Maps Go.MapKept Go.Proofs.YtnpkjkhlbdkclaaW.PrintWords Go.Proofs.Ytnpkjkhlbdkclaa.PIndexScripts

/-- From w to w' only blocks of fp have turned; the footprint is fp' then. -/
structure Step (w w' : World) (fp fp' : List Nat) : Prop where
  mods : Mods w w' fp
  own : ∀ i ∈ fp', i ∈ fp ∨ w.heap.size ≤ i
theorem Step.below {w w' : World} (h : Below w.heap.size w w') (fp : List Nat) : Step w w' fp fp := ⟨Mods.of_below h fp, fun i hi => .inl hi⟩
theorem Step.refl (w : World) (fp : List Nat) : Step w w fp fp := ⟨Mods.refl w fp, fun i hi => .inl hi⟩
/-- A list of texts that lies outside fp. -/
structure Ext (w : World) (fp : List Nat) (A : Option Addr) (l : List ByteArray) : Prop where
  reads : Kd.C Kd.string w A l.length l
  far : ∀ ad, A = some ad → 0 < l.length → ad.block ∉ fp
theorem Ext.step {w w' : World} {fp fp' : List Nat} {A : Option Addr} {l : List ByteArray} (h : Ext w fp A l) (hs : Step w w' fp fp') : Ext w' fp' A l := by
  have hr := Kd.str_reads h.reads
  have hblk : ∀ ad, A = some ad → 0 < l.length → ad.block < w.heap.size := fun ad e hl => by
    obtain ⟨ad', e', hb, _⟩ := hr.2 hl
    rw [e] at e'
    cases e'
    exact hb
  refine ⟨Kd.str_of_reads (B := w.heap.size) ⟨hr.1, fun hl => ?_⟩ h.reads.2.1, fun ad e hl hm => ?_⟩
  · obtain ⟨ad, e, hb, hc⟩ := hr.2 hl
    refine ⟨ad, e, hb, fun j u hu => ?_⟩
    rw [World.cell?_of_block (w := w) (hs.mods.block _ (by rw [block_of_add]; exact hb) (by rw [block_of_add]; exact h.far ad e hl))]
    exact hc j u hu
  · rcases hs.own _ hm with h1 | h1
    · exact h.far ad e hl h1
    · have := hblk ad e hl
      omega
/-- An Index among what was made since w0. -/
structure Lv (w0 w : World) (x : Nat) (S : List Pr) (n : Nat) (fp : List Nat) : Prop where
  ix : Ix w x S fp n
  own : ∀ i ∈ fp, w0.heap.size ≤ i
  b : Below w0.heap.size w0 w
theorem Lv.below {w0 w w' : World} {x : Nat} {S : List Pr} {n : Nat} {fp : List Nat} (h : Lv w0 w x S n fp) (hb : Below w.heap.size w w') : Lv w0 w' x S n fp :=
  ⟨h.ix.below hb, h.own, h.b.trans (hb.mono h.b.size)⟩
/-- Another thing was turned. -/
theorem Lv.other {w0 w w' : World} {x : Nat} {S : List Pr} {n : Nat} {fp fp2 fp2' : List Nat} (h : Lv w0 w x S n fp) (hs : Step w w' fp2 fp2') (h2 : ∀ i ∈ fp2, w0.heap.size ≤ i) (hd : ∀ i ∈ fp, i ∉ fp2) : Lv w0 w' x S n fp ∧ ∀ i ∈ fp, i ∉ fp2' :=
  ⟨⟨h.ix.mods hs.mods hd, h.own, h.b.trans (hs.mods.below h.b.size h2)⟩, fun i hi hm => by
    rcases hs.own i hm with h1 | h1
    · exact hd i hi h1
    · have := h.ix.lt i hi
      omega⟩
theorem Lv.mono {w0 w : World} {x : Nat} {S : List Pr} {n n' : Nat} {fp : List Nat} (h : Lv w0 w x S n fp) (hn : n ≤ n') : Lv w0 w x S n' fp := ⟨h.ix.mono hn, h.own, h.b⟩

theorem lv_new {w0 w : World} (hb : Below w0.heap.size w0 w) : Calls Try.prog 10 #[] w fun e w' => ∃ x fp, e = .returned (.pointer (some ⟨x, 0, none⟩)) ∧ Lv w0 w' x [] 0 fp ∧ Below w.heap.size w w' ∧ ∀ i ∈ fp, w.heap.size ≤ i :=
  (new_any w).mono fun e w' ⟨x, fp, he, h1, h2, h3⟩ => ⟨x, fp, he, ⟨h1, fun i hi => Nat.le_trans hb.size (h2 i hi), hb.trans (h3.mono hb.size)⟩, h3, h2⟩
theorem lv_set {w0 w : World} {x : Nat} {S : List Pr} {n : Nat} {fp : List Nat} (h : Lv w0 w x S n fp) (a b : ByteArray) (on : Bool) (S' : List Pr) (r : Bool) (hS : setS S (a, b) on = S') (hr : (hasP S (a, b) != on) = r) (hn : n ≤ 1000) (ha : sz a) (hb : sz b) :
    Calls Try.prog 11 #[.pointer (some ⟨x, 0, none⟩), .string a, .string b, .bool on] w fun e w' => e = .returned (.bool r) ∧ ∃ fp', Lv w0 w' x S' (n + 2) fp' ∧ Step w w' fp fp' := by
  refine (set_any h.ix a b on (by unfold maxLen; omega) ha hb).mono fun e w' ⟨he, fp', n', g1, g2, g3, g4⟩ => ?_
  rw [hS] at g1
  rw [hr] at he
  exact ⟨he, fp', ⟨g1.mono (by omega), fun i hi => (g3 i hi).elim (h.own i) (fun h2 => Nat.le_trans h.b.size h2), h.b.trans ((g4.below (B := w0.heap.size) h.b.size h.own))⟩, g4, g3⟩
theorem lv_list {w0 w w' : World} {x : Nat} {S : List Pr} {n : Nat} {fp : List Nat} (h : Lv w0 w x S n fp) {v : Value} {l : List ByteArray} (hR : Kd.R Kd.string 9 w' w.heap.size (fun _ => True) v l) (hb : Below w.heap.size w w') :
    ∃ A c, v = .slice A l.length c ∧ l.length ≤ c ∧ Ext w' fp A l ∧ (∀ ad, A = some ad → w.heap.size ≤ ad.block) ∧ Below w.heap.size w w' := by
  obtain ⟨A, c, rfl, hlc, hC⟩ := Kd.R_reads hR
  have hA : ∀ ad, A = some ad → w.heap.size ≤ ad.block := fun ad e => by
    subst e
    exact own_base (Kd.str_own hR) ad.block rfl
  exact ⟨A, c, rfl, hlc, ⟨hC, fun ad e _ hm => by have := h.ix.lt _ hm; have := hA ad e; omega⟩, hA, hb⟩
theorem lv_watchers {w0 w : World} {x : Nat} {S : List Pr} {n : Nat} {fp : List Nat} (h : Lv w0 w x S n fp) (a : ByteArray) (l : List ByteArray) (hl : othersS S 1 a = l) (hn : n ≤ 1000) (ha : sz a) :
    Calls Try.prog 19 #[.pointer (some ⟨x, 0, none⟩), .string a] w fun e w' => ∃ A c, e = .returned (.slice A l.length c) ∧ l.length ≤ c ∧ Ext w' fp A l ∧ (∀ ad, A = some ad → w.heap.size ≤ ad.block) ∧ Below w.heap.size w w' := by
  refine (watchers_any h.ix merge_said a ha (by omega)).mono fun e w' ⟨v, he, hR, hb⟩ => ?_
  rw [hl] at hR
  obtain ⟨A, c, rfl, h1⟩ := lv_list h hR hb
  exact ⟨A, c, he, h1⟩
theorem lv_contacts {w0 w : World} {x : Nat} {S : List Pr} {n : Nat} {fp : List Nat} (h : Lv w0 w x S n fp) (a : ByteArray) (l : List ByteArray) (hl : othersS S 0 a = l) (hn : n ≤ 1000) (ha : sz a) :
    Calls Try.prog 21 #[.pointer (some ⟨x, 0, none⟩), .string a] w fun e w' => ∃ A c, e = .returned (.slice A l.length c) ∧ l.length ≤ c ∧ Ext w' fp A l ∧ (∀ ad, A = some ad → w.heap.size ≤ ad.block) ∧ Below w.heap.size w w' := by
  refine (contacts_any h.ix merge_said a ha (by omega)).mono fun e w' ⟨v, he, hR, hb⟩ => ?_
  rw [hl] at hR
  obtain ⟨A, c, rfl, h1⟩ := lv_list h hR hb
  exact ⟨A, c, he, h1⟩
theorem lv_len {w0 w : World} {x : Nat} {S : List Pr} {n : Nat} {fp : List Nat} (h : Lv w0 w x S n fp) (k : Int) (hk : (S.length : Int) = k) : Calls Try.prog 17 #[.pointer (some ⟨x, 0, none⟩)] w fun e w' => e = .returned (.int .i64 k) ∧ w = w' := by
  rw [← hk]
  exact len_any h.ix
theorem lv_has {w0 w : World} {x : Nat} {S : List Pr} {n : Nat} {fp : List Nat} (h : Lv w0 w x S n fp) (a b : ByteArray) (r : Bool) (hr : hasP S (a, b) = r) (ha : sz a) (hb : sz b) : Calls Try.prog 13 #[.pointer (some ⟨x, 0, none⟩), .string a, .string b] w fun e w' => e = .returned (.bool r) ∧ w = w' := by
  rw [← hr]
  exact has_any h.ix a b ha hb
theorem lv_forget {w0 w : World} {x : Nat} {S : List Pr} {n : Nat} {fp : List Nat} (h : Lv w0 w x S n fp) (a : ByteArray) (S' : List Pr) (k : Int) (hS : forgetS S a 2 = S') (hk : (S.length : Int) - (S'.length : Int) = k) (hn : n ≤ 1000) (ha : sz a) :
    Calls Try.prog 15 #[.pointer (some ⟨x, 0, none⟩), .string a] w fun e w' => e = .returned (.int .i64 k) ∧ ∃ fp', Lv w0 w' x S' n fp' ∧ Step w w' fp fp' := by
  refine (forget_any h.ix merge_said a ha (by omega)).mono fun e w' ⟨he, fp', g1, g3, g4⟩ => ?_
  rw [hS] at g1 he
  rw [hk] at he
  exact ⟨he, fp', ⟨g1, fun i hi => (g3 i hi).elim (h.own i) (fun h2 => Nat.le_trans h.b.size h2), h.b.trans ((g4.below (B := w0.heap.size) h.b.size h.own))⟩, g4, g3⟩
theorem same_any (A0 : Option Addr) (c0 : Nat) (l0 : List ByteArray) (A1 : Option Addr) (c1 : Nat) (l1 : List ByteArray) (w : World) (h0 : Kd.C Kd.string w A0 l0.length l0) (g0 : l0.length ≤ c0) (h1 : Kd.C Kd.string w A1 l1.length l1) (g1 : l1.length ≤ c1) (hl : l0.length ≤ 100000) (r : Bool) (hr : sameL l0 l1 = r) :
    Calls Try.prog 18 #[.slice A0 l0.length c0, .slice A1 l1.length c1] w fun e w' => e = .returned (.bool r) ∧ ∃ q, w' = w.drewN q :=
  (rollcallref03_Same.calls 200000 A0 c0 l0 A1 c1 l1 r w h0 g0 h1 g1 (by rw [← hr]; exact refSame_eq l0 l1 hl)).mono fun e w' ⟨he, hw⟩ => ⟨he, hw.out⟩

def cA : ByteArray := ⟨#[97]⟩
def cB : ByteArray := ⟨#[98]⟩
def cC : ByteArray := ⟨#[99]⟩
theorem szA : sz cA := by unfold sz maxLen cA; decide
theorem szB : sz cB := by unfold sz maxLen cB; decide
theorem szC : sz cC := by unfold sz maxLen cC; decide
theorem e1 : setS [] (cC, cB) true = [(cC, cB)] := by rfl
theorem e2 : setS [(cC, cB)] (cA, cB) true = [(cC, cB), (cA, cB)] := by decide +kernel
theorem e3 : setS [(cC, cB), (cA, cB)] (cA, cB) true = [(cC, cB), (cA, cB)] := by decide +kernel
theorem e4 : setS [(cC, cB), (cA, cB)] (cA, cA) true = [(cC, cB), (cA, cB), (cA, cA)] := by decide +kernel
theorem e5 : setS [(cC, cB), (cA, cB), (cA, cA)] (cC, cB) false = [(cA, cB), (cA, cA)] := by decide +kernel
theorem e6 : setS [(cA, cB), (cA, cA)] (cC, cB) false = [(cA, cB), (cA, cA)] := by decide +kernel
theorem o1 : othersS [(cC, cB), (cA, cB), (cA, cA)] 1 cB = [cA, cC] := by decide +kernel
theorem o2 : othersS [(cC, cB), (cA, cB), (cA, cA)] 0 cA = [cA, cB] := by decide +kernel
theorem f1 : forgetS [(cA, cB), (cA, cA)] cA 2 = [] := by decide +kernel

end Go.Proofs.Ytnpkjkhlbdkclaa
