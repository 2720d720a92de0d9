/- The walks of From and Groups: addresses and groups. -/
import Derived.Test.YtmfjabpmhkechaaGreatDoorGrp
import Derived.Test.YtmfjabpmhkechaaGreatDoorAddrT
import Derived.IntWalk
import Derived.Laws.BitsAllLaws
namespace Go.Proofs.YtmfjabpmhkechaaGreatDoor
open Go Go.RowKit
set_option maxRecDepth 20000
set_option linter.unusedSimpArgs false
set_option linter.unusedVariables false

def fromG (g : GGroups) : GAddr := ⟨fromL g.g, by rw [fromL_length, g.len]⟩
def grpG (a : GAddr) : GGroups := ⟨grpL a.b, by rw [grpL_length, a.len]⟩
theorem hi_int (x : UInt16) : (x.toNat : Int) / 256 % 256 = ((hiB x).toNat : Int) := by
  have := x.toNat_lt
  rw [hiB_nat]; omega
theorem lo_int (x : UInt16) : (x.toNat : Int) % 256 = ((loB x).toNat : Int) := by
  rw [loB_nat]; omega
theorem from_any (g : GGroups) (w : World) :
    Calls Tryz.prog 103 #[.agg (groupsC g)] w fun e w' => e = .returned (.agg (addrC (fromG g))) ∧ Below w.heap.size w w' := by
  go_enter Tryz.func103, Tryz.ntmps103
  go_wp2
  go_loopw [5] (fun i wr => ∃ k : Nat, k ≤ 8 ∧ i = .int .i64 k ∧ Below w.heap.size w wr ∧ Var wr w.heap.size (groupsL g) ∧ Var wr (w.heap.size + 1) (u8Cod.encs (List.replicate 16 0)) ∧ Var wr (w.heap.size + 1 + 1) (u8Cod.encs (fromTo g.g k))) (fun i _ => 8 - (intOf i).toNat)
  case atStart => exact ⟨0, by omega, rfl, (by repeat (first | exact Below.refl _ _ | assumption | refine below_grown ?_ (by first | omega | (simp [go_sem]; done) | (simp [go_sem] <;> omega)) _ | refine Below.alloc ?_ (by first | omega | (simp [go_sem]; done) | (simp [go_sem] <;> omega)) _ | refine below_bytesW ?_ (by first | omega | (simp [go_sem]; done) | (simp [go_sem] <;> omega)) _ | refine Below.drew ?_ | refine below_drewN ?_ _)), ((Var.new _ _ _ rfl rfl).alloc _).alloc _, (Var.new _ _ _ rfl (by simp)).alloc _, Var.new _ _ _ rfl (by simp)⟩
  case round =>
    obtain ⟨k, hk, rfl, hb, hg, hr, ha⟩ := hrel
    have hlen := g.len
    by_cases hlt : k < 8
    · have hc := u16At hg.list k (by omega)
      rw [Nat.zero_add] at hc
      have hl16 := fromTo_length g.g hlen k hk
      have h1 := ha.cell (2 * k) (by rw [u8Len, hl16]; omega)
      have h2 := ha.cell (2 * k + 1) (by rw [u8Len, hl16]; omega)
      have f1 := ha.free (2 * k)
      have f2 := ha.free (2 * k + 1)
      have HE := Lib.hid (fromTo_succ g.g hlen k (by omega))
      generalize (u8Cod.encs (fromTo g.g k))[2 * k]'_ = v1 at *
      generalize (u8Cod.encs (fromTo g.g k))[2 * k + 1]'_ = v2 at *
      generalize g.g[k]'(by omega) = x at *
      have HB := Lib.hid hb
      clear hb
      go_wp2
      go_region
      rw [hi_int x, lo_int x]
      go_wp2
      go_roundw
      case rel =>
        refine ⟨k + 1, by omega, by go_num, below_drew ((HB.out.setCell (by first | omega | (simp; done) | (simp; omega)) _).setCell (by first | omega | (simp; done) | (simp; omega)) _), ((hg.setCell_other _ _ (by first | omega | (simp; done) | (simp; omega))).setCell_other _ _ (by first | omega | (simp; done) | (simp; omega))).drew, ((hr.setCell_other _ _ (by first | omega | (simp; done) | (simp; omega))).setCell_other _ _ (by first | omega | (simp; done) | (simp; omega))).drew, ?_⟩
        rw [HE.out, ← u8Set, ← u8Set]
        exact ((ha.setCell _ _).setCell _ _).drew
      case measure => simp [intOf]; omega
    · obtain rfl : k = 8 := by omega
      rw [fromTo_all g.g hlen] at ha
      have h1 : hasRow wr ⟨w.heap.size + 1 + 1, 0, none⟩ 16 = true := ha.hasRow (by rw [u8Len, fromL_length, hlen])
      have h2 : rowAt wr ⟨w.heap.size + 1 + 1, 0, none⟩ 16 = addrC (fromG g) := by rw [ha.rowAt (by rw [u8Len, fromL_length, hlen]), addrC_encs]; rfl
      have h3 : hasVar wr (w.heap.size + 1) 16 = true := hr.has rfl
      go_wp2
      exact ret_cell (w.heap.size + 1) (addrC (fromG g)) rfl rfl agg_addr (by simp [go_sem, h3]) (by simp [go_sem, h3]) rfl ⟨rfl, below_setRow hb (by omega) _⟩
theorem w16_int (a b : UInt8) : bits .or .u16 (IntKind.u16.wrap (IntKind.u16.wrap (a.toNat : Int) * 256)) (IntKind.u16.wrap (b.toNat : Int)) = ((w16 a b).toNat : Int) := by
  have ha := a.toNat_lt
  have hb := b.toNat_lt
  rw [IntWalk.u16_in (a.toNat : Int) (by omega), IntWalk.u16_in (b.toNat : Int) (by omega)]
  have h1 : IntKind.u16.wrap ((a.toNat : Int) * 256) = ((2 ^ 8 * a.toNat : Nat) : Int) := by
    rw [show (a.toNat : Int) * 256 = ((2 ^ 8 * a.toNat : Nat) : Int) by push_cast; omega]
    exact IntWalk.u16_in _ (by omega)
  rw [h1, u16_or_nat _ _ (by omega) (by omega), ← Nat.two_pow_add_eq_or_of_lt (by omega), w16_nat]
  congr 1
  omega
theorem groups_any (a : GAddr) (w : World) :
    Calls Tryz.prog 80 #[.agg (addrC a)] w fun e w' => e = .returned (.agg (groupsC (grpG a))) ∧ Below w.heap.size w w' := by
  go_enter Tryz.func80, Tryz.ntmps80
  go_wp2
  go_loopw [5] (fun i wr => ∃ k : Nat, k ≤ 8 ∧ i = .int .i64 k ∧ Below w.heap.size w wr ∧ Var wr w.heap.size (u8Cod.encs a.b) ∧ Var wr (w.heap.size + 1) (u16Cod.encs (List.replicate 8 0)) ∧ Var wr (w.heap.size + 1 + 1) (u16Cod.encs (grpTo a.b k))) (fun i _ => 8 - (intOf i).toNat)
  case atStart => exact ⟨0, by omega, rfl, (by repeat (first | exact Below.refl _ _ | assumption | refine below_grown ?_ (by first | omega | (simp [go_sem]; done) | (simp [go_sem] <;> omega)) _ | refine Below.alloc ?_ (by first | omega | (simp [go_sem]; done) | (simp [go_sem] <;> omega)) _ | refine below_bytesW ?_ (by first | omega | (simp [go_sem]; done) | (simp [go_sem] <;> omega)) _ | refine Below.drew ?_ | refine below_drewN ?_ _)), ((Var.new _ _ _ (by rw [addrC_encs]) rfl).alloc _).alloc _, (Var.new _ _ _ rfl (by simp)).alloc _, Var.new _ _ _ rfl (by simp)⟩
  case round =>
    obtain ⟨k, hk, rfl, hb, hg, hr, ha⟩ := hrel
    have hlen := a.len
    by_cases hlt : k < 8
    · have hc1 := u8At hg.list (2 * k) (by omega)
      have hc2 := u8At hg.list (2 * k + 1) (by omega)
      rw [Nat.zero_add] at hc1 hc2
      have hl16 := grpTo_length a.b hlen k hk
      have h1 := ha.cell k (by rw [u16Len, hl16]; omega)
      have f1 := ha.free k
      have HE := Lib.hid (grpTo_succ a.b hlen k (by omega))
      generalize (u16Cod.encs (grpTo a.b k))[k]'_ = v1 at *
      generalize a.b[2 * k]'(by omega) = x at *
      generalize a.b[2 * k + 1]'(by omega) = y at *
      have HB := Lib.hid hb
      clear hb
      go_wp2
      go_region
      rw [w16_int x y]
      go_wp2
      go_roundw
      case rel =>
        refine ⟨k + 1, by omega, by go_num, below_drew (HB.out.setCell (by first | omega | (simp; done) | (simp; omega)) _), (hg.setCell_other _ _ (by first | omega | (simp; done) | (simp; omega))).drew, (hr.setCell_other _ _ (by first | omega | (simp; done) | (simp; omega))).drew, ?_⟩
        rw [HE.out, ← u16Set]
        exact (ha.setCell _ _).drew
      case measure => simp [intOf]; omega
    · obtain rfl : k = 8 := by omega
      rw [grpTo_all a.b hlen] at ha
      have h1 : hasRow wr ⟨w.heap.size + 1 + 1, 0, none⟩ 8 = true := ha.hasRow (by rw [u16Len, grpL_length, hlen])
      have h2 : rowAt wr ⟨w.heap.size + 1 + 1, 0, none⟩ 8 = groupsC (grpG a) := by rw [ha.rowAt (by rw [u16Len, grpL_length, hlen])]; rfl
      have h3 : hasVar wr (w.heap.size + 1) 8 = true := hr.has rfl
      go_wp2
      exact ret_cell (w.heap.size + 1) (groupsC (grpG a)) rfl rfl agg_groups (by simp [go_sem, h3]) (by simp [go_sem, h3]) rfl ⟨rfl, below_setRow hb (by omega) _⟩
end Go.Proofs.YtmfjabpmhkechaaGreatDoor
