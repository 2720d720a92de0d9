/- The law on paths: of any two texts whether one belongs to the other as paths do, and of any text the path of which a cookie is, the program answers as the document does. No condition. -/
import Derived.Test.YtmophphkhajjaaaMatchPath
import Derived.Test.YtmophphkhajjaaaMatchDefault
namespace Go.Proofs.Ytmophphkhajjaaa
open Go.RowKit

theorem matchAlive_any (w : World) : Calls Try.prog 6 #[] w fun e w' => e = .returned (.bool true) ∧ w = w' := by
  have e1 : pathB [47, 97, 47, 98] [47, 97] = true := by decide
  have e2 : pathB [47, 97, 47, 98] [47, 97, 47] = true := by decide
  have e3 : pathB [47, 97, 98] [47, 97] = false := by decide
  have e4 : defaultL [47, 97, 47, 98] = [47, 97] := by decide
  go_enter Try.func6, Try.ntmps6
  go_wp2_with (first | (go_at_call 7; refine (path_any _ _ (by decide) _).mono ?_; rintro e w' ⟨rfl, rfl⟩) | (go_at_call 9; refine (default_any _ (by decide) _).mono ?_; rintro e w' ⟨rfl, rfl⟩))
  go_ret
  exact ⟨rfl, rfl⟩

theorem matchPaths_walk (p o : List UInt8) (hp : p.length ≤ maxLen) (ho : o.length ≤ maxLen) (w : World) :
    Calls Try.prog 3 #[.string ⟨p.toArray⟩, .string ⟨o.toArray⟩] w fun e w' => e = .returned (.bool true) ∧ w = w' := by
  have hp' := hp
  have ho' := ho
  unfold maxLen at hp' ho'
  by_cases h1 : p.length ≤ 3000
  · by_cases h2 : o.length ≤ 3000
    · go_enter Try.func3, Try.ntmps3
      go_wp2_with (first | (go_at_call 6; refine (matchAlive_any _).mono ?_; rintro e w' ⟨rfl, rfl⟩) | (go_at_call 7; refine (path_any _ _ ho _).mono ?_; rintro e w' ⟨rfl, rfl⟩) | (go_at_call 8; refine (refPath_any _ _ hp ho _).mono ?_; rintro e w' ⟨rfl, rfl⟩) | (go_at_call 9; refine (default_any _ (by omega) _).mono ?_; rintro e w' ⟨rfl, rfl⟩) | (go_at_call 10; refine (refDefault_any _ hp _).mono ?_; rintro e w' ⟨rfl, rfl⟩))
      go_ret
      exact ⟨rfl, rfl⟩
    · go_enter Try.func3, Try.ntmps3
      go_wp2_with (first | (go_at_call 6; refine (matchAlive_any _).mono ?_; rintro e w' ⟨rfl, rfl⟩))
      go_ret
      exact ⟨rfl, rfl⟩
  · go_enter Try.func3, Try.ntmps3
    go_wp2_with (first | (go_at_call 6; refine (matchAlive_any _).mono ?_; rintro e w' ⟨rfl, rfl⟩))
    go_ret
    exact ⟨rfl, rfl⟩
end Go.Proofs.Ytmophphkhajjaaa
