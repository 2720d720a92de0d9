/- The walk of the statement AddrApart. -/
import Derived.Test.YtamkmfkkhgkllaaDoorAddrAlive
namespace Go.Proofs.YtamkmfkkhgkllaaDoor
open Go Go.RowKit
set_option maxRecDepth 20000
set_option linter.unusedSimpArgs false
set_option linter.unusedVariables false

theorem text6_eq (a b : GAddr) : (text6L a.b == text6L b.b) = addrEq a b := by
  rw [Bool.eq_iff_iff, beq_iff_eq, addrEq_iff]
  exact ⟨fun h => addr_ext (text6_inj a.b b.b a.len b.len h), fun h => by rw [h]⟩
theorem text6_bd (a : GAddr) : 2 ≤ (text6L a.b).length ∧ (text6L a.b).length ≤ 39 := text6_len _ (grpG a).len
theorem text6_sign (a : GAddr) (x : UInt8) (h : x ∈ text6L a.b) : ¬ ((65 : Int) ≤ x.toNat ∧ (x.toNat : Int) ≤ 90) := fun ⟨h1, h2⟩ => text6_low _ x h ⟨by omega, by omega⟩
set_option maxHeartbeats 1000000 in
theorem apart6_law (a b : GAddr) (m : Int) (w : World) (hm : HasMax m w) (htz : HasTz w) :
    Calls Tryd.prog 4 #[.agg (addrC a), .agg (addrC b)] w fun e w' => e = .returned (.bool true) ∧ Below w.heap.size w w' := by
  obtain ⟨hl1, hl2⟩ := text6_bd a
  have hs := text6_sign a
  have HS := Lib.hid hs
  have he := text6_eq a b
  have HA : Hid (∀ w, HasTz w → Calls Tryd.prog 14 #[.agg (addrC a)] w fun e w' => e = .returned (.string ⟨(text6L a.b).toArray⟩) ∧ Below w.heap.size w w') := fun w h => text6_any a w h
  have HB : Hid (∀ w, HasTz w → Calls Tryd.prog 14 #[.agg (addrC b)] w fun e w' => e = .returned (.string ⟨(text6L b.b).toArray⟩) ∧ Below w.heap.size w w') := fun w h => text6_any b w h
  clear hs
  generalize text6L a.b = X at *
  generalize text6L b.b = Y at *
  cases hq : addrEq a b
  all_goals
    rw [hq] at he
    go_enter Tryd.func4, Tryd.ntmps4
    go_wp2_with (go_at_call 11; refine (addrAlive_any m _ (by repeat (first | exact hm | apply HasMax.grown | apply HasMax.alloc | apply HasMax.drew)) (by repeat (first | exact htz | apply HasTz.grown | apply HasTz.alloc | apply HasTz.drew))).mono ?_; rintro e w1 ⟨rfl, hb1⟩; obtain ⟨p1, rfl⟩ := grown_of hb1; clear hb1)
    refine wp_region_quiet_grown (by kernel_rfl) (by kernel_rfl) ?_
    repeat (quiet_step ((go_at_call 14; first | (with_reducible exact quiet_grown (HA.out _ (by repeat (first | exact htz | apply HasTz.grown | apply HasTz.alloc | apply HasTz.drew)))) | (with_reducible exact quiet_grown (HB.out _ (by repeat (first | exact htz | apply HasTz.grown | apply HasTz.alloc | apply HasTz.drew)))))))
    refine wpQuiet_nil ?_; intro _ hw'; obtain ⟨pq, hw''⟩ := hw'; subst hw''
    go_wp2
    go_loop [7] (fun i => ∃ k : Nat, k ≤ X.length ∧ i = .int .i64 k) (fun i => X.length - (intOf i).toNat)
    case atStart => exact ⟨0, Nat.zero_le _, rfl⟩
    case round =>
      obtain ⟨k, hk, rfl⟩ := hrel
      by_cases hlt : k < X.length
      · have hno := HS.out _ (List.getElem_mem hlt)
        obtain ⟨x, hx⟩ : ∃ x, ∀ h, X[k]'h = x := ⟨X[k]'hlt, fun _ => rfl⟩
        rw [hx] at hno
        by_cases h1 : (65 : Int) ≤ x.toNat
        · have h2 : (90 : Int) < x.toNat := by omega
          clear hno
          go_wp2
          go_round
          case rel => exact ⟨k + 1, by omega, by go_num⟩
          case measure => simp [intOf]; omega
        · clear hno
          go_wp2
          go_round
          case rel => exact ⟨k + 1, by omega, by go_num⟩
          case measure => simp [intOf]; omega
      · obtain rfl : k = X.length := by omega
        go_wp2
        go_ret
        exact ⟨by simp; omega, (by repeat (first | exact Below.refl _ _ | assumption | refine below_grown ?_ (by first | omega | (simp [go_sem]; done) | (simp [go_sem] <;> omega)) _ | refine Below.alloc ?_ (by first | omega | (simp [go_sem]; done) | (simp [go_sem] <;> omega)) _ | refine below_bytesW ?_ (by first | omega | (simp [go_sem]; done) | (simp [go_sem] <;> omega)) _ | refine Below.drew ?_ | refine below_drewN ?_ _))⟩
end Go.Proofs.YtamkmfkkhgkllaaDoor
