/- IndexNil: the walk of the law. No condition. -/
import Derived.Test.YtnpkjkhlbdkclaaIxLiveW
set_option linter.unusedSimpArgs false
set_option linter.unusedVariables false
namespace Go.Proofs.Ytnpkjkhlbdkclaa
open Go.RowKit Go.Maps Go.MapKept

set_option maxHeartbeats 1000000 in
set_option maxRecDepth 100000 in
theorem nil_law (a b : ByteArray) (w : World) : Calls Try.prog 6 #[.string a, .string b] w fun e w' => e = .returned (.bool true) ∧ Below w.heap.size w w' := by
  by_cases h1 : 40 < a.size
  · have h1' : (40 : Int) < a.size := by omega
    go_enter Try.func6, Try.ntmps6
    go_wp2_with fail
    refine (live_any _).mono ?_
    rintro e w1 ⟨rfl, hb⟩
    go_wp2_with fail
    go_ret
    exact ⟨rfl, hb⟩
  · have h1' : ¬ (40 : Int) < a.size := by omega
    by_cases h2 : 40 < b.size
    · have h2' : (40 : Int) < b.size := by omega
      go_enter Try.func6, Try.ntmps6
      go_wp2_with fail
      refine (live_any _).mono ?_
      rintro e w1 ⟨rfl, hb⟩
      go_wp2_with fail
      go_ret
      exact ⟨rfl, hb⟩
    · have h2' : ¬ (40 : Int) < b.size := by omega
      go_enter Try.func6, Try.ntmps6
      go_wp2_with fail
      refine (set_nil _ _ _ _).mono ?_
      rintro e w1 ⟨rfl, rfl⟩
      go_wp2_with fail
      refine (has_nil _ _ _).mono ?_
      rintro e w1 ⟨rfl, rfl⟩
      go_wp2_with fail
      refine (watchers_nil _ _).mono ?_
      rintro e w1 ⟨rfl, rfl⟩
      go_wp2_with fail
      refine (contacts_nil _ _).mono ?_
      rintro e w1 ⟨rfl, rfl⟩
      go_wp2_with fail
      refine (forget_nil _ _).mono ?_
      rintro e w1 ⟨rfl, hb⟩
      have HB := Lib.hid hb
      clear hb
      go_wp2_with fail
      refine (len_nil _).mono ?_
      rintro e w1 ⟨rfl, rfl⟩
      go_wp2_with fail
      refine (live_any _).mono ?_
      rintro e w1 ⟨rfl, hb⟩
      have HB2 := Lib.hid (HB.out.trans (hb.mono HB.out.size))
      clear hb
      go_wp2_with fail
      go_ret
      exact ⟨rfl, HB2.out⟩
end Go.Proofs.Ytnpkjkhlbdkclaa
