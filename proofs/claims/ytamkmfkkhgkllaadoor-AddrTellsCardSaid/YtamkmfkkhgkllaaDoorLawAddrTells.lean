/- The walk of the statement AddrTells. -/
import Derived.Test.YtamkmfkkhgkllaaDoorAddrAlive
import Derived.Test.YtamkmfkkhgkllaaDoorAddrRefT
namespace Go.Proofs.YtamkmfkkhgkllaaDoor
open Go Go.RowKit
set_option maxRecDepth 20000
set_option linter.unusedSimpArgs false
set_option linter.unusedVariables false

set_option maxHeartbeats 1000000 in
theorem tellsA_law (a : GAddr) (m : Int) (w : World) (hm : HasMax m w) (htz : HasTz w) (hd : HasDec w) :
    Calls Tryd.prog 6 #[.agg (addrC a)] w fun e w' => e = .returned (.bool true) ∧ Below w.heap.size w w' := by
  have H1 : Hid (∀ w, HasDec w → Calls Tryd.prog 17 #[.agg (addrC a)] w fun e w' => e = .returned (.string ⟨(text4L a.b).toArray⟩) ∧ Below w.heap.size w w') := fun w h => text4_any a w h
  have H2 : Hid (∀ w, Calls Tryd.prog 18 #[.agg (addrC a)] w fun e w' => e = .returned (.string ⟨(text4L a.b).toArray⟩) ∧ Below w.heap.size w w') := fun w => refText4_any a w
  have H3 : Hid (∀ w, HasTz w → Calls Tryd.prog 14 #[.agg (addrC a)] w fun e w' => e = .returned (.string ⟨(text6L a.b).toArray⟩) ∧ Below w.heap.size w w') := fun w h => text6_any a w h
  have H4 : Hid (∀ w, Calls Tryd.prog 19 #[.agg (addrC a)] w fun e w' => e = .returned (.string ⟨(text6L a.b).toArray⟩) ∧ Below w.heap.size w w') := fun w => refText6_any a w
  have HG : Hid (∀ w, Calls Tryd.prog 13 #[.agg (addrC a)] w fun e w' => e = .returned (.agg (groupsC (grpG a))) ∧ Below w.heap.size w w') := fun w => groups_any a w
  have HGR := Lib.hid (fun k hk hk' w => group02_any a k hk hk' w)
  have hG8 : (grpG a).g.length = 8 := (grpG a).len
  have HGG : Hid ((grpG a).g = grpL a.b) := rfl
  have hal : (addrL a).length = 16 := addrL_length a
  have hac : (addrL a).toArray = addrC a := rfl
  have HVA : Hid (Var (w.alloc (Obj.cells (addrC a) 26)) w.heap.size (addrL a)) := Var.new _ _ _ rfl rfl
  rw [← HGG.out] at HGR
  generalize text6L a.b = X at *
  generalize text4L a.b = Y at *
  generalize addrL a = al at *
  generalize grpG a = G at *
  clear HGG
  go_enter Tryd.func6, Tryd.ntmps6
  go_wp2_with (first
    | (go_at_call 11; refine (addrAlive_any m _ (by repeat (first | exact hm | apply HasMax.grown | apply HasMax.alloc | apply HasMax.drew)) (by repeat (first | exact htz | apply HasTz.grown | apply HasTz.alloc | apply HasTz.drew))).mono ?_; rintro e w1 ⟨rfl, hb1⟩; obtain ⟨p1, rfl⟩ := grown_of hb1; clear hb1)
    | (go_at_call 13; refine (HG.out _).mono ?_; rintro e w1 ⟨rfl, hb1⟩; obtain ⟨p2, rfl⟩ := grown_of hb1; clear hb1))
  have hB : Below w.heap.size w ((grown (grown (w.alloc (Obj.cells (addrC a) 26)) p1) p2).alloc (Obj.cells (groupsC G) 23)) := (by repeat (first | exact Below.refl _ _ | assumption | refine below_grown ?_ (by first | omega | (simp [go_sem]; done) | (simp [go_sem] <;> omega)) _ | refine Below.alloc ?_ (by first | omega | (simp [go_sem]; done) | (simp [go_sem] <;> omega)) _ | refine below_bytesW ?_ (by first | omega | (simp [go_sem]; done) | (simp [go_sem] <;> omega)) _ | refine Below.drew ?_ | refine below_drewN ?_ _))
  have hS : w.heap.size < ((grown (grown (w.alloc (Obj.cells (addrC a) 26)) p1) p2).alloc (Obj.cells (groupsC G) 23)).heap.size := by simp [go_sem]; omega
  have hVA : Var ((grown (grown (w.alloc (Obj.cells (addrC a) 26)) p1) p2).alloc (Obj.cells (groupsC G) 23)) w.heap.size al := (((HVA.out).grown _).grown _).alloc _
  have hVG : Var ((grown (grown (w.alloc (Obj.cells (addrC a) 26)) p1) p2).alloc (Obj.cells (groupsC G) 23)) (w.heap.size + 1 + p1.os.size + p2.os.size) (u16Cod.encs G.g) := Var.new _ _ _ rfl (by simp [go_sem])
  generalize ((grown (grown (w.alloc (Obj.cells (addrC a) 26)) p1) p2).alloc (Obj.cells (groupsC G) 23)) = w1 at *
  generalize w.heap.size + 1 + p1.os.size + p2.os.size = bg at *
  have HB := Lib.hid hB
  have HVA1 := Lib.hid hVA
  have HVG := Lib.hid hVG
  clear hB hVA hVG HG HVA
  go_loopw [4, 9] (fun _ i wr => ∃ k : Nat, k ≤ 8 ∧ i = .int .i64 k ∧ Below w.heap.size w wr ∧ w.heap.size < wr.heap.size ∧ Var wr w.heap.size al ∧ Var wr bg (u16Cod.encs G.g)) (fun _ i _ => 8 - (intOf i).toNat)
  case atStart => exact ⟨0, by omega, rfl, HB.out, hS, HVA1.out, HVG.out⟩
  case round =>
    obtain ⟨k, hk, rfl, hb, hsz, hva, hvg⟩ := hrel
    have h3 : ∀ p, hasRow (grown wr p) ⟨w.heap.size, 0, none⟩ 16 = true := fun p => (hva.grown p).hasRow hal
    have h4 : ∀ p, rowAt (grown wr p) ⟨w.heap.size, 0, none⟩ 16 = addrC a := fun p => by rw [(hva.grown p).rowAt hal, hac]
    have h5 : hasRow wr ⟨w.heap.size, 0, none⟩ 16 = true := hva.hasRow hal
    have h6 : rowAt wr ⟨w.heap.size, 0, none⟩ 16 = addrC a := by rw [hva.rowAt hal, hac]
    have HB := Lib.hid hb
    have HVA1 := Lib.hid hva
    have HVG := Lib.hid hvg
    by_cases hlt : k < 8
    · have hc : wr.cell? ⟨bg, k, none⟩ = some (.int .u16 ((G.g[k]'(by omega)).toNat : Int)) := by
        have := u16At hvg.list k (by omega)
        rwa [Nat.zero_add] at this
      have hcg : ∀ p, (grown wr p).cell? ⟨bg, k, none⟩ = some (.int .u16 ((G.g[k]'(by omega)).toNat : Int)) := fun p => by
        have := u16At (hvg.grown p).list k (by omega)
        rwa [Nat.zero_add] at this
      have HX := Lib.hid (HGR.out k hlt (by omega))
      have hxl := (G.g[k]'(by omega)).toNat_lt
      clear hb hva hvg
      generalize (G.g[k]'(by omega)).toNat = x at *
      have hw1 : IntKind.i64.wrap (x : Int) = (x : Int) := IntWalk.i64_in _ (by omega)
      go_wp2
      refine wp_region_quiet_grown (by kernel_rfl) (by kernel_rfl) ?_
      repeat (quiet_step ((go_at_call 16; exact quiet_grown (HX.out _))))
      refine wpQuiet_nil ?_; intro _ hw'; obtain ⟨pq, hw''⟩ := hw'; subst hw''
      go_wp2
      go_roundw
      case rel => exact ⟨k + 1, by omega, by go_num, below_grown HB.out HB.out.size _, by simp [go_sem]; omega, HVA1.out.grown _, HVG.out.grown _⟩
      case measure => simp [intOf]; omega
    · obtain rfl : k = 8 := by omega
      have HD : Hid (HasDec wr) := hd.below hb
      have HT : Hid (HasTz wr) := htz.below hb
      clear hb hva hvg
      go_wp2
      refine wp_region_quiet_grown (by kernel_rfl) (by kernel_rfl) ?_
      repeat (quiet_step ((first
        | (go_at_call 17; exact quiet_grown (H1.out _ (HasDec.grown HD.out _)))
        | (go_at_call 18; exact quiet_grown (H2.out _))
        | (go_at_call 14; exact quiet_grown (H3.out _ (HasTz.grown HT.out _)))
        | (go_at_call 19; exact quiet_grown (H4.out _)))))
      refine wpQuiet_nil ?_; intro _ hw'; obtain ⟨pq, hw''⟩ := hw'; subst hw''
      go_wp2
      go_ret
      exact ⟨by simp, below_grown HB.out HB.out.size _⟩
end Go.Proofs.YtamkmfkkhgkllaaDoor
