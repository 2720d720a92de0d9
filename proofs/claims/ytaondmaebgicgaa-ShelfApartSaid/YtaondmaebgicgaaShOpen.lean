/- A cookie among the arguments: how long its value can be; a list of acts among the arguments. -/
import Derived.Test.YtaondmaebgicgaaCook
import Derived.SizedLaws
import Derived.ChangeArms
namespace Go.Proofs.Ytaondmaebgicgaa
open Go Go.RowKit
set_option maxRecDepth 20000
set_option linter.unusedSimpArgs false
set_option linter.unusedVariables false

section
variable {H : Type} {enc : TypeId × Value → H} {w : World} {base : Nat} {spare : Nat → Bool} {held : Bool}
theorem value_bound {c : GCookie} {d : DataW H} {p : List MemPlace} {ts : List TypeId} {ds : List (DataW H)} {j : Nat} (hsz : (DataW.weightsEach Try.prog ts ds).all (· ≤ reachBytes) = true) (ht : ts[j]? = some 31) (hd : ds[j]? = some d)
    (hk : ∃ m, DataW.trod enc Try.prog w base spare held m 31 (Value.agg (cookieC c)).cells.toList = some (d, p)) : c.value.length ≤ reachBytes := by
  obtain ⟨m, hk⟩ := hk
  have e : (Value.agg (cookieC c)).cells.toList = cookieL c := rfl
  rw [e] at hk
  obtain ⟨xs, n, _, hx, _, hl, hf⟩ := DataW.trod_struct Try.underlying31 hk
  have h1 := hf 1 _ rfl
  have hl1 : 1 < xs.length := by rw [hl]; decide
  rw [List.getElem?_eq_getElem hl1] at h1
  have e1 : ((cookieL c).drop 1).take 1 = [.string ⟨c.value.toArray⟩] := by simp [cookieL]
  have h2 : DataW.trod enc Try.prog w base spare held n 9 [.string ⟨c.value.toArray⟩] = some (xs[1]'hl1) := by rw [← e1]; exact h1
  obtain ⟨s, hs, hy, _⟩ := DataW.trod_string Try.underlying9 h2
  have hs' : s = ⟨c.value.toArray⟩ := by simpa using hs.symm
  subst hs'
  have hd' : d = .agg (xs.map (·.1)) := (Prod.mk.inj hx).1
  subst hd'
  have hw : c.value.length ∈ DataW.weightsEach Try.prog ts ds := by
    refine DataW.weights_mem_each ht hd _ ?_
    unfold DataW.weights
    rw [Try.underlying31]
    refine DataW.weights_mem_each (j := 1) (t := 9) (d := (xs[1]'hl1).1) rfl (by rw [List.getElem?_map, List.getElem?_eq_getElem hl1]; rfl) _ ?_
    rw [hy]
    simp [DataW.weights]
  have := List.all_eq_true.1 hsz _ hw
  simpa using this
end
end Go.Proofs.Ytaondmaebgicgaa
