/- (*Index).others: those on the other side of a name's pairs. Condition: names of a length that may be, and room. -/
import Derived.Test.YtnpkjkhlbdkclaaIxSmall
import Derived.Test.YtnpkjkhlbdkclaaMergeSaid
import Derived.Test.YtnpkjkhlbdkclaaIdConcat
set_option linter.unusedSimpArgs false
set_option linter.unusedVariables false
namespace Go.Proofs.Ytnpkjkhlbdkclaa
open Go.RowKit Go.Maps Go.MapKept Go.Proofs.YtnpkjkhlbdkclaaW.PrintWords
open Go.ChangeMaps (setBlock)

theorem At.drew_set {w w1 : World} (h : w1 = w ∨ w1 = w.drew) (r : Nat) (o : Obj) : At w (ChangeMaps.setBlock w1 r o) r := by
  rcases h with rfl | rfl
  · exact At.setBlock _ _ _
  · exact ⟨rfl, rfl, rfl, size_setBlock _ _ _, fun i hi => heap_setBlock_ne o hi⟩

theorem left_push (es : Array MapEntry) (seen : Array Nat) (e : MapEntry) (he : e ∈ (leftOf es seen).toList) : (leftOf es (seen.push e.born)).size < (leftOf es seen).size := by
  have h1 : (leftOf es (seen.push e.born)).toList = (leftOf es seen).toList.filter (fun x => !decide (x.born = e.born)) := by
    unfold leftOf
    rw [Array.toList_filter, Array.toList_filter, List.filter_filter]
    refine List.filter_congr (fun x _ => ?_)
    simp only [Array.contains_push]
    by_cases hb : x.born = e.born
    · simp [hb]
    · have : (x.born == e.born) = false := by simpa using hb
      simp [hb]
  rw [← Array.length_toList, ← Array.length_toList, h1]
  refine List.length_filter_lt_length_iff_exists.2 ⟨e, he, by simp⟩

theorem wpList_next_m {P : Program} (w : World) {ops : Array Oper} {rest : List Oper} {o : Oper} {a : Act} {Q : Exit → Act → World → Prop}
    (hg : o.guard = none) (it : Operand) (hop : o.op = Op.next it false) (r bm clock : Nat) (seen : Array Nat) (es : Array MapEntry)
    (hit : a.eval it = .pointer (some ⟨r, 0, none⟩)) (hr : w.heap[r]? = some (.mapIter (some bm) clock seen clock)) (hb : w.heap[bm]? = some (.map es clock)) (hst : Stamped es clock) (hne : bm ≠ r)
    (hDone : (leftOf es seen).size = 0 → wpList P ops Q rest (a.put o.dst (.tuple #[.bool false])) w)
    (hMore : ∀ e ∈ (leftOf es seen).toList, ∀ w', w'.heap[r]? = some (.mapIter (some bm) clock (seen.push e.born) clock) → At w w' r →
      (Instr.entry (.pointer (some ⟨r, 0, none⟩))).run P w' = .ok (.tuple #[e.key, e.val]) w' → (leftOf es (seen.push e.born)).size < (leftOf es seen).size → wpList P ops Q rest (a.put o.dst (.tuple #[.bool true, e.key, e.val])) w') :
    wpList P ops Q (o :: rest) a w := by
  refine wpList_plain hg fun K' hK' => ?_
  unfold Oper.wp
  have hs := (stamped_iff es clock).1 hst
  have hlt : r < w.heap.size := (Array.getElem?_eq_some_iff.1 hr).1
  rcases run_next_at (P := P) w o.type r bm clock clock seen es clock hr hb hs.1 (Nat.le_refl _) with ⟨h0, hrun⟩ | ⟨e, he, w1, hw1, hrun⟩
  · simp [execOp, hop, hit, hrun, Result.andThen]
    exact hK' _ _ (hDone h0)
  · simp [execOp, hop, hit, hrun, Result.andThen]
    have hlt1 : r < w1.heap.size := by rcases hw1 with rfl | rfl <;> exact hlt
    have hh := heap_setBlock_eq (w := w1) (r := r) (.mapIter (some bm) clock (seen.push e.born) clock) hlt1
    have hb1 : (setBlock w1 r (.mapIter (some bm) clock (seen.push e.born) clock)).heap[bm]? = some (.map es clock) := by
      rw [heap_setBlock_ne _ hne]
      rcases hw1 with rfl | rfl <;> exact hb
    have hem : e ∈ es.toList := by
      have : e ∈ (leftOf es seen).toList := he
      unfold leftOf at this
      rw [Array.toList_filter] at this
      exact (List.mem_filter.1 this).1
    exact hK' _ _ (hMore e he _ hh (At.drew_set hw1 _ _) (run_entry_at (P := P) _ r bm clock seen es clock e hh hb1 hem hs.2.1) (left_push es seen e he))

def othersS (S : List Pr) (s : Nat) (nm : ByteArray) : List ByteArray := mergeN ((S.filter (fun p => decide (sideName s p = nm))).map (sideName (1 - s)))

/-- What has been gathered: the other names of the entries seen. -/
structure Got (w wr : World) (r : Nat) (s : Nat) (es : Array MapEntry) (clock : Nat) (seen : Array Nat) (acc : List ByteArray) (v : Value) : Prop where
  iter : wr.heap[w.heap.size]? = some (.mapIter (some r) clock seen clock)
  below : Below w.heap.size w wr
  own : wr.ownsRow (w.heap.size + 1) 9 1 v acc.length (acc.map Value.string)
  mem : ∀ y, y ∈ acc ↔ ∃ e ∈ es.toList, e.born ∈ seen ∧ ∃ q, e.key = pv q ∧ y = sideName (1 - s) q
  len : acc.length + (leftOf es seen).size ≤ es.size

theorem Got.start (w : World) (r s : Nat) (es : Array MapEntry) (clock : Nat) : Got w (w.alloc (.mapIter (some r) clock #[] clock)) r s es clock #[] [] (.slice none 0 0) := by
  refine ⟨heap_alloc_new _ _, (Below.refl _ _).alloc (Nat.le_refl _) _, ⟨rfl, .inl ⟨rfl, rfl⟩⟩, fun y => by simp, ?_⟩
  unfold leftOf
  simp only [List.length_nil, Nat.zero_add]
  exact Array.size_filter_le

theorem Got.next {w wr w' : World} {r s : Nat} {es : Array MapEntry} {clock : Nat} {seen : Array Nat} {acc : List ByteArray} {v : Value} (h : Got w wr r s es clock seen acc v) (hst : Stamped es clock) {e : MapEntry} (he : e ∈ (leftOf es seen).toList) {q : Pr} (hq : e.key = pv q) (hinj : ∀ e ∈ es.toList, ∃ q, e.key = pv q)
    {v' : Value} (hi : w'.heap[w.heap.size]? = some (.mapIter (some r) clock (seen.push e.born) clock)) (hb : Below w.heap.size w w') (ho : w'.ownsRow (w.heap.size + 1) 9 1 v' (acc.length + 1) (acc.map Value.string ++ [.string (sideName (1 - s) q)])) :
    Got w w' r s es clock (seen.push e.born) (acc ++ [sideName (1 - s) q]) v' := by
  have hs := (stamped_iff es clock).1 hst
  have hem : e ∈ es.toList := by
    unfold leftOf at he
    rw [Array.toList_filter] at he
    exact (List.mem_filter.1 he).1
  have hlt := left_push es seen e he
  refine ⟨hi, hb, by simpa using ho, fun y => ?_, by have := h.len; simp; omega⟩
  rw [List.mem_append, h.mem y, List.mem_singleton]
  constructor
  · rintro (⟨x, hx, hxs, q', hk, rfl⟩ | rfl)
    · exact ⟨x, hx, by simp [hxs], q', hk, rfl⟩
    · exact ⟨e, hem, by simp, q, hq, rfl⟩
  · rintro ⟨x, hx, hxs, q', hk, rfl⟩
    rw [Array.mem_push] at hxs
    rcases hxs with hxs | hxs
    · exact .inl ⟨x, hx, hxs, q', hk, rfl⟩
    · have hxe : x = e := by
        have hn := hs.2.1
        obtain ⟨i, hi⟩ := List.mem_iff_getElem?.1 hx
        obtain ⟨j, hj⟩ := List.mem_iff_getElem?.1 hem
        have h1 : (es.toList.map (·.born))[i]? = some x.born := by simp [hi]
        have h2 : (es.toList.map (·.born))[j]? = some x.born := by simp [hj, hxs]
        have hil := (List.getElem?_eq_some_iff.1 h1).1
        have : i = j := (List.getElem?_inj hil hn).1 (h1.trans h2.symm)
        subst this
        rw [hi] at hj
        exact Option.some.inj hj
      subst hxe
      rw [hq] at hk
      rw [pv_inj _ _ hk]
      exact .inr rfl

/-- When nothing is left all has been gathered. -/
theorem Got.done {w wr : World} {r s : Nat} {es : Array MapEntry} {clock : Nat} {seen : Array Nat} {acc : List ByteArray} {v : Value} (h : Got w wr r s es clock seen acc v) (h0 : (leftOf es seen).size = 0) {T S : List Pr} {nm : ByteArray}
    (hes : es.toList.map (fun e => (e.key, e.val)) = (T.map fun p => (p, ())).map (fun p => (pv p.1, tv p.2))) (hT : ∀ q, q ∈ T ↔ q ∈ S ∧ sideName s q = nm) : mergeN acc = othersS S s nm := by
  have hall : ∀ e ∈ es.toList, e.born ∈ seen := fun e he => by
    have h1 : (leftOf es seen) = #[] := Array.eq_empty_of_size_eq_zero h0
    unfold leftOf at h1
    rw [Array.filter_eq_empty_iff] at h1
    have := h1 e (by simpa using he)
    simpa using this
  unfold othersS
  refine mergeN_ext (fun y => ?_)
  rw [h.mem y, List.mem_map]
  constructor
  · rintro ⟨e, he, _, q, hk, rfl⟩
    obtain ⟨p, hp, h1, _⟩ := entries_mem hes he
    obtain ⟨q', hq', rfl⟩ := List.mem_map.1 hp
    have : q = q' := pv_inj _ _ (hk.symm.trans h1)
    subst this
    exact ⟨q, List.mem_filter.2 ⟨((hT q).1 hq').1, by simpa using ((hT q).1 hq').2⟩, rfl⟩
  · rintro ⟨q, hq, rfl⟩
    obtain ⟨h1, h2⟩ := List.mem_filter.1 hq
    have hqT : q ∈ T := (hT q).2 ⟨h1, by simpa using h2⟩
    obtain ⟨e, he, h3, _⟩ := entries_of hes (p := (q, ())) (List.mem_map.2 ⟨q, hqT, rfl⟩)
    exact ⟨e, he, hall e he, q, h3, rfl⟩

def OthersPost (w : World) (S : List Pr) (s : Nat) (nm : ByteArray) (e : Ending) (w' : World) : Prop := ∃ v, e = .returned v ∧ Kd.R Kd.string 9 w' w.heap.size (fun _ => True) v (othersS S s nm) ∧ Below w.heap.size w w'

theorem Kd.str_of_reads {w : World} {B : Nat} {A : Option Addr} {l : List ByteArray} (h : Reads w B 1 A l.length (l.map Value.string)) (hm : l.length ≤ 9223372036854775807) : Kd.C Kd.string w A l.length l := by
  refine ⟨rfl, hm, fun hn => ?_⟩
  obtain ⟨ad, e, hb, hc⟩ := h.2 hn
  refine ⟨ad, e, fun j p hp => ⟨[.string p], rfl, rfl, fun i u hu => ?_⟩⟩
  have e1 : Kd.string.sz = 1 := rfl
  cases i with
  | zero =>
    simp at hu
    subst hu
    have := hc j (.string p) (by rw [List.getElem?_map, hp]; rfl)
    simpa [e1] using this
  | succ i => simp at hu
theorem nil_C (w : World) : Kd.C Kd.string w none 0 ([] : List ByteArray) := ⟨rfl, by omega, fun h => absurd h (by omega)⟩

/-- How many entries are still to come. -/
def leftN (es : Array MapEntry) (b : Nat) (wr : World) : Nat := match wr.heap[b]? with | some (.mapIter _ _ seen _) => (leftOf es seen).size | _ => 0
theorem leftN_eq {es : Array MapEntry} {b : Nat} {wr : World} {m : Option Nat} {c c' : Nat} {seen : Array Nat} (h : wr.heap[b]? = some (.mapIter m c seen c')) : leftN es b wr = (leftOf es seen).size := by unfold leftN; rw [h]

theorem others_nil (nm : ByteArray) (s : Int) (w : World) : Calls Try.prog 26 #[.pointer none, .string nm, .int .i64 s] w fun e w' => e = .returned (.slice none 0 0) ∧ w = w' := by
  go_enter Try.func26, Try.ntmps26
  go_wp2
  go_ret
  exact ⟨rfl, rfl⟩

theorem one_reads (w1 : World) (cs : Array Value) (t : TypeId) (v : Value) (t' : TypeId) : Reads ((w1.alloc (.cells cs t)).alloc (.cells #[v] t')) (w1.heap.size + 1 + 1) 1 (some ⟨w1.heap.size + 1, 0, none⟩) 1 [v] := by
  refine ⟨rfl, fun _ => ⟨_, rfl, by simp, fun j u hu => ?_⟩⟩
  have hj : j = 0 := by
    have := (List.getElem?_eq_some_iff.1 hu).1
    simpa using this
  subst hj
  have hu' : u = v := by simpa using hu.symm
  subst hu'
  have := heap_alloc_new (w1.alloc (.cells cs t)) (.cells #[u] t')
  simp only [World.size_alloc] at this
  exact cell_of_block this

set_option maxHeartbeats 1000000 in
set_option maxRecDepth 100000 in
theorem others_any {w : World} {x : Nat} {S : List Pr} {fp : List Nat} {n : Nat} (h : Ix w x S fp n) (hM : MergeSaid) (nm : ByteArray) (hz : sz nm) (s : Nat) (hs : s < 2) (hn : n ≤ 1000000) :
    Calls Try.prog 26 #[.pointer (some ⟨x, 0, none⟩), .string nm, .int .i64 s] w (OthersPost w S s nm) := by
  obtain ⟨pb, m, L, rfl, h⟩ := h
  have hc1 : w.cell? ⟨x, 1, none⟩ = some (.map (some (m 0))) := cell_of_block h.cell
  have hc2 : w.cell? ⟨x, 2, none⟩ = some (.map (some (m 1))) := cell_of_block h.cell
  have hS := h.side s hs
  have hlook := hS.map.lookup (t := 43) stringKeyed Try.underlying43 sv_inj (zeroInner _) (stringKey nm hz).choose_spec
  have hSn := h.lens.1
  cases hl : look (L s) nm with
  | none =>
    rw [hl] at hlook
    have hempty : othersS S s nm = mergeN ([] ++ []) := by
      unfold othersS
      rw [List.filter_eq_nil_iff.2 (fun q hq => ?_)]
      · rfl
      · obtain ⟨r, hr⟩ := hS.cover q hq
        have := look_none.1 hl _ hr
        simpa using this
    have HE := Lib.hid hempty
    have hrg := run_range_nilMap (P := Try.prog) w 42 48 4 Try.underlying42
    have hnx : ∀ ty, (Instr.next (.pointer (some ⟨w.heap.size, 0, none⟩)) false ty).run Try.prog (w.alloc (.mapIter none 0 #[] 0)) = _ := fun ty => run_next_nilMap w ty 0 0 #[]
    have HM := Lib.hid (hM none 0 [] none 0 [] (w.alloc (.mapIter none 0 #[] 0)) (nil_C _) (Nat.le_refl _) (nil_C _) (Nat.le_refl _) (by simp))
    clear h hS hl hempty
    rcases (show s = 0 ∨ s = 1 by omega) with rfl | rfl
    all_goals
      go_enter Try.func26, Try.ntmps26
      go_wp2
      refine wp_loop_rounds 1 ?_
      rw [rounds_succ]
      go_wp2_with fail
      refine HM.out.mono ?_
      rintro e w1 ⟨v, rfl, hR, hb⟩
      have HR := Lib.hid hR
      have HB := Lib.hid (show Below w.heap.size w w1 from ((Below.refl _ _).alloc (Nat.le_refl _) _).trans (hb.mono (by simp)))
      clear hR hb hrg hnx hlook
      go_wp2_with fail
      go_ret
      exact ⟨_, rfl, by rw [HE.out]; exact Kd.R_lower HR.out (by simp), HB.out⟩
  | some r =>
    rw [hl] at hlook
    change _ = Result.ok (Value.map (some r)) w at hlook
    obtain ⟨T, hPT, hT⟩ := hS.inner nm r (look_mem hl)
    have hTn : T.length ≤ S.length := nodup_le T S (pmap_nodup hPT) (fun q hq => ((hT q).1 hq).1)
    have hrlt := hPT.lt
    obtain ⟨es, clock, hb, hst, hes, hrd, hnd, hle⟩ := id hPT
    have hess : es.size = T.length := by have := congrArg List.length hes; simpa using this
    have hrg := run_range_map (P := Try.prog) w 42 48 4 r es clock Try.underlying42 hb
    have H0 := Lib.hid (Got.start w r s es clock)
    have HES := Lib.hid (⟨hst, hes, hT, hb⟩ : _ ∧ _ ∧ _ ∧ _)
    have hesn : es.size ≤ 1000000 := by omega
    have HKN := Lib.hid (show ∀ e ∈ es.toList, ∃ q, e.key = pv q from fun e he => by
      obtain ⟨p, hp, h1, _⟩ := entries_mem hes he
      exact ⟨p.1, h1⟩)
    obtain ⟨i0, hi, hzz, hsz, hbt⟩ := info_parts infoStr
    have HI := Lib.hid (⟨hi, hzz, hsz, hbt⟩ : _ ∧ _ ∧ _ ∧ _)
    clear h hS hl hPT hst hes hT hb hrd hnd hle hess hi hzz hsz hbt hTn
    rcases (show s = 0 ∨ s = 1 by omega) with rfl | rfl
    · change Calls _ _ #[.pointer (some ⟨x, 0, none⟩), .string nm, .int .i64 0] _ _
      go_enter Try.func26, Try.ntmps26
      go_wp2
      go_loopw [7] (fun v wr => ∃ seen acc, Got w wr r 0 es clock seen acc v) (fun v wr => leftN es w.heap.size wr)
      case atStart => exact ⟨#[], [], H0.out⟩
      case round =>
        clear H0
        obtain ⟨seen, acc, HG⟩ := hrel
        have HGh := Lib.hid HG
        clear HG
        go_wp2_with (first
          | (at_next; refine wpList_next_m _ rfl _ rfl w.heap.size r clock seen es rfl HGh.out.iter ((HGh.out.below.block r hrlt).trans HES.out.2.2.2) HES.out.1 (by omega) ?_ ?_)
          | fail)
        · intro h0
          have h0' : (leftOf es seen).size = 0 := by rw [h0]; rfl
          have HF := Lib.hid (HGh.out.done h0' HES.out.2.1 HES.out.2.2.1)
          obtain ⟨A, c, rfl, hac⟩ : ∃ A c, u7 = .slice A acc.length c ∧ acc.length ≤ c := by
            rcases HGh.out.own.2 with ⟨h, h2⟩ | ⟨g, cap, cur, h, _, _, h2, _⟩
            · exact ⟨none, 0, by rw [h, h2], by omega⟩
            · exact ⟨_, cap, h, h2⟩
          have hacn := HGh.out.len
          have HM := Lib.hid (hM A c acc none 0 [] wr (Kd.str_of_reads (Reads.of_own HGh.out.own) (by omega)) hac (nil_C _) (Nat.le_refl _) (by simp; omega))
          have HB := Lib.hid HGh.out.below
          have HN := Lib.hid hacn
          clear h0 h0' hac hacn HGh hrg hlook HES
          go_wp2_with fail
          refine HM.out.mono ?_
          rintro e w1 ⟨v, rfl, hR, hb⟩
          have HR := Lib.hid hR
          have HB2 := Lib.hid (HB.out.trans (hb.mono HB.out.size))
          clear hR hb
          go_wp2_with fail
          go_ret
          exact ⟨_, rfl, by rw [← HF.out]; have := HR.out; rw [List.append_nil] at this; exact Kd.R_lower this HB.out.size, HB2.out⟩
        · intro e he w1 hi hat hen hlt
          obtain ⟨q, hq⟩ := HKN.out e (by unfold leftOf at he; rw [Array.mem_filter] at he; simpa using he.1)
          rw [hq] at hen ⊢
          unfold pv at hen ⊢
          have HH := Lib.hid (⟨he, hi, hat, hlt, hq⟩ : _ ∧ _ ∧ _ ∧ _ ∧ _)
          clear he hi hat hlt hq
          have HRD := Lib.hid (one_reads w1 #[.string q.1, .string q.2] 48 (.string q.2) 9)
          have HO := Lib.hid (own_move (w1 := (w1.alloc (.cells #[.string q.1, .string q.2] 48)).alloc (.cells #[.string q.2] 9)) HGh.out.own (fun k hk => by
            have h1 := own_base HGh.out.own k hk
            have h2 := own_lt HGh.out.own k hk
            have h3 := HH.out.2.2.1.size
            rw [Below.heap_alloc _ _ _ (by simp; omega), Below.heap_alloc _ _ _ (by omega)]
            exact HH.out.2.2.1.block k (by omega)))
          have hacn := HGh.out.len
          have hbs := HGh.out.below.size
          go_wp2_with (first
            | (at_builtin; refine wpList_append_any _ rfl _ _ 38 rfl (w.heap.size + 1) 9 i0 _ 1 16 Try.underlying38 HI.out.1 HI.out.2.1 HI.out.2.2.1 HI.out.2.2.2 rfl (by decide) u7 acc.length (acc.map Value.string) rfl HO.out (w1.heap.size + 1 + 1) (some ⟨w1.heap.size + 1, 0, none⟩) 1 1 [.string q.2] rfl HRD.out ?_ ?_ ?_ ?_ ?_)
            | fail)
          · intro u hu; simp at hu; subst hu; rfl
          · unfold maxLen; omega
          · omega
          · have hws := HH.out.2.2.1.size
            simp; omega
          intro v2 w2 hown2 hgr2 _
          have hws := HH.out.2.2.1.size
          have hgr3 : Below w.heap.size w w2 := by
            have h1 : Below w.heap.size w w1 := HGh.out.below.trans ⟨HH.out.2.2.1.os, HH.out.2.2.1.tape, HH.out.2.2.1.output, by omega, fun i hi => HH.out.2.2.1.block i (by omega)⟩
            exact ((h1.alloc (by omega) _).alloc (by simp; omega) _).grown hgr2 (by simp; omega) (fun k hk => by have := own_base HGh.out.own k hk; omega)
          have hit2 : w2.heap[w.heap.size]? = some (.mapIter (some r) clock (seen.push e.born) clock) := by
            have hlt0 : w.heap.size < wr.heap.size := (Array.getElem?_eq_some_iff.1 HGh.out.iter).1
            rw [hgr2.block _ (by simp; omega) (fun hk => by have := own_base HGh.out.own _ hk.symm; omega), Below.heap_alloc _ _ _ (by simp; omega), Below.heap_alloc _ _ _ (by omega)]
            exact HH.out.2.1
          have HN := Lib.hid (HGh.out.next HES.out.1 (by simpa using HH.out.1) HH.out.2.2.2.2 HKN.out hit2 hgr3 hown2)
          have HI1 := Lib.hid HGh.out.iter
          have HI2 := Lib.hid hit2
          have HLT := Lib.hid HH.out.2.2.2.1
          clear hown2 hgr2 hgr3 hit2 HO hacn hbs hws HH hen HGh
          go_wp2
          go_roundw
          case rel => exact ⟨_, _, HN.out⟩
          case measure => rw [leftN_eq HI1.out, leftN_eq HI2.out]; exact HLT.out
    · change Calls _ _ #[.pointer (some ⟨x, 0, none⟩), .string nm, .int .i64 1] _ _
      go_enter Try.func26, Try.ntmps26
      go_wp2
      go_loopw [7] (fun v wr => ∃ seen acc, Got w wr r 1 es clock seen acc v) (fun v wr => leftN es w.heap.size wr)
      case atStart => exact ⟨#[], [], H0.out⟩
      case round =>
        clear H0
        obtain ⟨seen, acc, HG⟩ := hrel
        have HGh := Lib.hid HG
        clear HG
        go_wp2_with (first
          | (at_next; refine wpList_next_m _ rfl _ rfl w.heap.size r clock seen es rfl HGh.out.iter ((HGh.out.below.block r hrlt).trans HES.out.2.2.2) HES.out.1 (by omega) ?_ ?_)
          | fail)
        · intro h0
          have h0' : (leftOf es seen).size = 0 := by rw [h0]; rfl
          have HF := Lib.hid (HGh.out.done h0' HES.out.2.1 HES.out.2.2.1)
          obtain ⟨A, c, rfl, hac⟩ : ∃ A c, u7 = .slice A acc.length c ∧ acc.length ≤ c := by
            rcases HGh.out.own.2 with ⟨h, h2⟩ | ⟨g, cap, cur, h, _, _, h2, _⟩
            · exact ⟨none, 0, by rw [h, h2], by omega⟩
            · exact ⟨_, cap, h, h2⟩
          have hacn := HGh.out.len
          have HM := Lib.hid (hM A c acc none 0 [] wr (Kd.str_of_reads (Reads.of_own HGh.out.own) (by omega)) hac (nil_C _) (Nat.le_refl _) (by simp; omega))
          have HB := Lib.hid HGh.out.below
          have HN := Lib.hid hacn
          clear h0 h0' hac hacn HGh hrg hlook HES
          go_wp2_with fail
          refine HM.out.mono ?_
          rintro e w1 ⟨v, rfl, hR, hb⟩
          have HR := Lib.hid hR
          have HB2 := Lib.hid (HB.out.trans (hb.mono HB.out.size))
          clear hR hb
          go_wp2_with fail
          go_ret
          exact ⟨_, rfl, by rw [← HF.out]; have := HR.out; rw [List.append_nil] at this; exact Kd.R_lower this HB.out.size, HB2.out⟩
        · intro e he w1 hi hat hen hlt
          obtain ⟨q, hq⟩ := HKN.out e (by unfold leftOf at he; rw [Array.mem_filter] at he; simpa using he.1)
          rw [hq] at hen ⊢
          unfold pv at hen ⊢
          have HH := Lib.hid (⟨he, hi, hat, hlt, hq⟩ : _ ∧ _ ∧ _ ∧ _ ∧ _)
          clear he hi hat hlt hq
          have HRD := Lib.hid (one_reads w1 #[.string q.1, .string q.2] 48 (.string q.1) 9)
          have HO := Lib.hid (own_move (w1 := (w1.alloc (.cells #[.string q.1, .string q.2] 48)).alloc (.cells #[.string q.1] 9)) HGh.out.own (fun k hk => by
            have h1 := own_base HGh.out.own k hk
            have h2 := own_lt HGh.out.own k hk
            have h3 := HH.out.2.2.1.size
            rw [Below.heap_alloc _ _ _ (by simp; omega), Below.heap_alloc _ _ _ (by omega)]
            exact HH.out.2.2.1.block k (by omega)))
          have hacn := HGh.out.len
          have hbs := HGh.out.below.size
          go_wp2_with (first
            | (at_builtin; refine wpList_append_any _ rfl _ _ 38 rfl (w.heap.size + 1) 9 i0 _ 1 16 Try.underlying38 HI.out.1 HI.out.2.1 HI.out.2.2.1 HI.out.2.2.2 rfl (by decide) u7 acc.length (acc.map Value.string) rfl HO.out (w1.heap.size + 1 + 1) (some ⟨w1.heap.size + 1, 0, none⟩) 1 1 [.string q.1] rfl HRD.out ?_ ?_ ?_ ?_ ?_)
            | fail)
          · intro u hu; simp at hu; subst hu; rfl
          · unfold maxLen; omega
          · omega
          · have hws := HH.out.2.2.1.size
            simp; omega
          intro v2 w2 hown2 hgr2 _
          have hws := HH.out.2.2.1.size
          have hgr3 : Below w.heap.size w w2 := by
            have h1 : Below w.heap.size w w1 := HGh.out.below.trans ⟨HH.out.2.2.1.os, HH.out.2.2.1.tape, HH.out.2.2.1.output, by omega, fun i hi => HH.out.2.2.1.block i (by omega)⟩
            exact ((h1.alloc (by omega) _).alloc (by simp; omega) _).grown hgr2 (by simp; omega) (fun k hk => by have := own_base HGh.out.own k hk; omega)
          have hit2 : w2.heap[w.heap.size]? = some (.mapIter (some r) clock (seen.push e.born) clock) := by
            have hlt0 : w.heap.size < wr.heap.size := (Array.getElem?_eq_some_iff.1 HGh.out.iter).1
            rw [hgr2.block _ (by simp; omega) (fun hk => by have := own_base HGh.out.own _ hk.symm; omega), Below.heap_alloc _ _ _ (by simp; omega), Below.heap_alloc _ _ _ (by omega)]
            exact HH.out.2.1
          have HN := Lib.hid (HGh.out.next HES.out.1 (by simpa using HH.out.1) HH.out.2.2.2.2 HKN.out hit2 hgr3 hown2)
          have HI1 := Lib.hid HGh.out.iter
          have HI2 := Lib.hid hit2
          have HLT := Lib.hid HH.out.2.2.2.1
          clear hown2 hgr2 hgr3 hit2 HO hacn hbs hws HH hen HGh
          go_wp2
          go_roundw
          case rel => exact ⟨_, _, HN.out⟩
          case measure => rw [leftN_eq HI1.out, leftN_eq HI2.out]; exact HLT.out
end Go.Proofs.Ytnpkjkhlbdkclaa
