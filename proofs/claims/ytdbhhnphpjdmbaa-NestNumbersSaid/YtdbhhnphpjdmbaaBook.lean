/- The book's Within: a number within bounds. -/
import Derived.Test.YtdbhhnphpjdmbaaBase
namespace Go.Proofs.Ytdbhhnphpjdmbaa
open Go.RowKit
set_option maxRecDepth 100000
set_option linter.unusedVariables false
set_option linter.unusedSimpArgs false
theorem book_Within (n lo hi : Int) (w : World) (h0 : -1000000 ≤ lo) (h1 : lo ≤ hi) (h2 : hi ≤ 1000000) :
    Calls Try.prog 28 #[.int .i64 n, .int .i64 lo, .int .i64 hi] w fun e w' => ∃ m, e = .returned (.int .i64 m) ∧ lo ≤ m ∧ m ≤ hi ∧ w = w' := by
  have hd : 0 < hi - lo + 1 := by omega
  have ht1 := Int.tmod_lt_of_pos n hd
  have ht2 := Int.lt_tmod_of_pos n hd
  have HT := Lib.hid (And.intro ht1 ht2)
  clear ht1 ht2 hd
  by_cases ha : n ≥ lo
  · by_cases hb : n ≤ hi
    · go_enter Try.func28, Try.ntmps28
      go_wp2
      go_ret
      exact ⟨n, rfl, ha, hb, rfl⟩
    · go_enter Try.func28, Try.ntmps28
      go_wp2_with (fail)
      all_goals go_ret
      all_goals
        obtain ⟨ht1, ht2⟩ := HT.out
        generalize n.tmod (hi - lo + 1) = t at *
        refine ⟨_, rfl, ?_, ?_, rfl⟩
        all_goals (unfold wrap64; omega)
  · go_enter Try.func28, Try.ntmps28
    go_wp2_with (fail)
    all_goals go_ret
    all_goals
      obtain ⟨ht1, ht2⟩ := HT.out
      generalize n.tmod (hi - lo + 1) = t at *
      refine ⟨_, rfl, ?_, ?_, rfl⟩
      all_goals (unfold wrap64; omega)
end Go.Proofs.Ytdbhhnphpjdmbaa
