/- Opening values of struct types: addresses and hosts. -/
import Derived.Test.YtaondmaebgicgaaHost
import Derived.Test.YtaondmaebgicgaaOpenB
namespace Go.Proofs.Ytaondmaebgicgaa
open Go Go.RowKit
set_option maxRecDepth 20000

section
variable {w : World} {r : Reach} {base : Nat}
def addrT : List TypeId := List.replicate 16 5
def hostT : List TypeId := [3, 9] ++ addrT
theorem fits_addr {vs : List Value} (h : RowFits Try.prog w r base addrT vs) : ∃ a : GAddr, vs = addrL a := by
  obtain ⟨l, hl, rfl⟩ := rowFits_u8 Try.underlying5 h
  exact ⟨⟨l, hl⟩, rfl⟩
theorem fits_host {vs : List Value} (h : RowFits Try.prog w r base hostT vs) : ∃ a : GHost, vs = hostL a := by
  obtain ⟨v, b, rfl, h1, h⟩ := rowFits_cons h
  obtain ⟨v', b', rfl, h2, h⟩ := rowFits_cons h
  obtain ⟨a, rfl⟩ := fits_addr h
  obtain ⟨k, rfl, hk⟩ := cell_int Try.underlying3 h1
  obtain ⟨s, rfl, hs⟩ := cell_str Try.underlying9 h2
  exact ⟨⟨k, s, a, hk, hs⟩, rfl⟩
theorem open_addr {v : Value} (h : Value.okWide Try.prog w r base 27 v) : ∃ a : GAddr, v = .agg (addrC a) := by
  unfold Value.okWide at h
  rw [Try.underlying27] at h
  obtain ⟨cs, rfl, hs, hr⟩ := h
  obtain ⟨a, ha⟩ := fits_addr (rowFits_row (ts := addrT) (by kernel_rfl) (by rw [hs, cellsOf_addr]; rfl) hr)
  exact ⟨a, by rw [addrC, ← ha]⟩
theorem open_host {v : Value} (h : Value.okWide Try.prog w r base 29 v) : ∃ a : GHost, v = .agg (hostC a) := by
  unfold Value.okWide at h
  rw [Try.underlying29] at h
  obtain ⟨cs, rfl, hs, hr⟩ := h
  obtain ⟨a, ha⟩ := fits_host (rowFits_row (ts := hostT) (by kernel_rfl) (by rw [hs, cellsOf_host]; rfl) hr)
  exact ⟨a, by rw [hostC, ← ha]⟩
end
end Go.Proofs.Ytaondmaebgicgaa
