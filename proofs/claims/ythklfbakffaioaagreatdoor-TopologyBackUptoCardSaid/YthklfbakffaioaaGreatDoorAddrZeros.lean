/- The walks of zeros and of written: the longest row of noughts; groups with colons between. -/
import Derived.Test.YthklfbakffaioaaGreatDoorFmt16
import Derived.Test.YthklfbakffaioaaGreatDoorJoin
import Derived.Test.YthklfbakffaioaaGreatDoorSplitG
namespace Go.Proofs.YthklfbakffaioaaGreatDoor
open Go Go.RowKit
set_option maxRecDepth 20000
set_option linter.unusedSimpArgs false
set_option linter.unusedVariables false

theorem zState_take (z : List Bool) (k : Nat) (h : k < z.length) : zState (z.take (k + 1)) = zStep (zState (z.take k)) (z[k]'h) := by
  rw [zState, List.take_succ_eq_append_getElem h, List.foldl_append]; rfl
set_option maxHeartbeats 1000000 in
theorem zeros_any (g : GGroups) (w : World) :
    Calls Tryz.prog 121 #[.agg (groupsC g)] w fun e w' => e = .returned (.tuple #[.int .i64 (zAt (nulls g.g) : Int), .int .i64 (zLong (nulls g.g) : Int)]) ∧ Below w.heap.size w w' := by
  go_enter Tryz.func121, Tryz.ntmps121
  go_wp2
  go_loopw [4, 5, 6, 8] (fun at' lg rn i wr => ∃ (k a n r : Nat), k ≤ 8 ∧ a ≤ k ∧ n ≤ k ∧ r ≤ k ∧ at' = .int .i64 a ∧ lg = .int .i64 n ∧ rn = .int .i64 r ∧ i = .int .i64 k ∧ Below w.heap.size w wr ∧ Var wr w.heap.size (groupsL g) ∧ Hid (zState ((nulls g.g).take k) = (k, a, n, r))) (fun _ _ _ i _ => 8 - (intOf i).toNat)
  case atStart => exact ⟨0, 0, 0, 0, by omega, by omega, by omega, by omega, rfl, rfl, rfl, rfl, (by repeat (first | exact Below.refl _ _ | assumption | refine below_grown ?_ (by first | omega | (simp [go_sem]; done) | (simp [go_sem] <;> omega)) _ | refine Below.alloc ?_ (by first | omega | (simp [go_sem]; done) | (simp [go_sem] <;> omega)) _ | refine below_bytesW ?_ (by first | omega | (simp [go_sem]; done) | (simp [go_sem] <;> omega)) _ | refine Below.drew ?_ | refine below_drewN ?_ _)), Var.new _ _ _ rfl rfl, rfl⟩
  case round =>
    obtain ⟨k, a, n, r, hk, ha, hn, hr, rfl, rfl, rfl, rfl, hb, hg, hinv⟩ := hrel
    have hlen := g.len
    have HB := Lib.hid hb
    clear hb
    by_cases hlt : k < 8
    · have hc := u16At hg.list k (by omega)
      rw [Nat.zero_add] at hc
      have hz := zState_take (nulls g.g) k (by simp [nulls]; omega)
      have hzk : (nulls g.g)[k]'(by simp [nulls]; omega) = (g.g[k]'(by omega) == 0) := by simp [nulls]
      rw [hinv.out, hzk] at hz
      have HZ := Lib.hid hz
      clear hz hzk
      generalize g.g[k]'(by omega) = x at *
      by_cases hx : x = 0
      · subst hx
        by_cases hlr : n < r + 1
        · have HV : Hid (zState ((nulls g.g).take (k + 1)) = (k + 1, k + 1 - (r + 1), r + 1, r + 1)) := show _ = _ by rw [HZ.out, zStep]; simp [hlr]
          go_wp2
          go_roundw
          case rel => exact ⟨k + 1, k + 1 - (r + 1), r + 1, r + 1, by omega, by omega, by omega, by omega, by congr 1; omega, by go_num, by go_num, by go_num, HB.out, hg, HV⟩
          case measure => simp [intOf]; omega
        · have HV : Hid (zState ((nulls g.g).take (k + 1)) = (k + 1, a, n, r + 1)) := show _ = _ by rw [HZ.out, zStep]; simp [hlr]
          go_wp2
          go_roundw
          case rel => exact ⟨k + 1, a, n, r + 1, by omega, by omega, by omega, by omega, rfl, rfl, by go_num, by go_num, HB.out, hg, HV⟩
          case measure => simp [intOf]; omega
      · have hx1 : ((x.toNat : Int) != 0) = true := by
          simp only [bne_iff_ne, ne_eq]
          intro h
          exact hx (UInt16.toNat_inj.1 (by simpa using h))
        have hx2 : (x == 0) = false := by simpa using hx
        have HV : Hid (zState ((nulls g.g).take (k + 1)) = (k + 1, a, n, 0)) := show _ = _ by rw [HZ.out, hx2, zStep]; simp
        clear hx hx2
        go_wp2
        go_roundw
        case rel => exact ⟨k + 1, a, n, 0, by omega, by omega, by omega, by omega, rfl, rfl, rfl, by go_num, HB.out, hg, HV⟩
        case measure => simp [intOf]; omega
    · obtain rfl : k = 8 := by omega
      have e := hinv.out
      rw [List.take_of_length_le (by simp [nulls]; omega)] at e
      have E1 : Hid (zAt (nulls g.g) = a) := show _ = _ by rw [zAt, e]
      have E2 : Hid (zLong (nulls g.g) = n) := show _ = _ by rw [zLong, e]
      clear e hinv
      go_wp2
      go_ret2
      exact ⟨by rw [E1.out, E2.out]; rfl, HB.out⟩
theorem hexs_le (xs : List UInt16) : (writtenL xs).length ≤ 5 * xs.length := (written_len xs).1
set_option maxHeartbeats 1000000 in
theorem written_any (xs : List UInt16) (a : Option Addr) (ca lo : Nat) (hxs : xs.length ≤ 8) (w : World) (hin : ListIn u16Cod w a xs lo) (htz : HasTz w) :
    Calls Tryz.prog 122 #[.slice a xs.length ca] w fun e w' => e = .returned (.string ⟨(writtenL xs).toArray⟩) ∧ Below w.heap.size w w' := by
  have hwl := hexs_le xs
  rcases hin with rfl | ⟨b, o, rfl, _, hbw, hat⟩
  · go_enter Tryz.func122, Tryz.ntmps122
    go_wp2
    go_loopw [3, 8] (fun out i wr => out = .slice none 0 0 ∧ i = .int .i64 0 ∧ w = wr) (fun _ _ _ => 0)
    case atStart => exact ⟨rfl, rfl, rfl⟩
    case round =>
      obtain ⟨rfl, rfl, rfl⟩ := hrel
      go_wp2_with (go_at_call 47; refine (join_any [] 58 none 0 0 (Nat.le_refl _) (by simp) (by simp [joinL]) _ (.inl rfl)).mono ?_; rintro e w1 ⟨rfl, hb1⟩; obtain ⟨p1, rfl⟩ := grown_of hb1; clear hb1)
      go_ret
      exact ⟨rfl, (by repeat (first | exact Below.refl _ _ | assumption | refine below_grown ?_ (by first | omega | (simp [go_sem]; done) | (simp [go_sem] <;> omega)) _ | refine Below.alloc ?_ (by first | omega | (simp [go_sem]; done) | (simp [go_sem] <;> omega)) _ | refine below_bytesW ?_ (by first | omega | (simp [go_sem]; done) | (simp [go_sem] <;> omega)) _ | refine Below.drew ?_ | refine below_drewN ?_ _))⟩
  · go_enter Tryz.func122, Tryz.ntmps122
    go_wp2
    go_loopw [3, 8] (fun out i wr => ∃ (k : Nat), k ≤ xs.length ∧ i = .int .i64 k ∧ Keeps (From w.heap.size) w wr ∧ Own strCod (From w.heap.size) wr out ((xs.take k).map fun x => hexL x.toNat)) (fun _ i _ => xs.length - (intOf i).toNat)
    case atStart => exact ⟨0, Nat.zero_le _, rfl, Keeps.refl _ _, Own.nil _ _⟩
    case round =>
      obtain ⟨k, hk, rfl, hb, ho⟩ := hrel
      have hsz := hb.size
      have HB := Lib.hid hb
      have HO := Lib.hid ho
      have HBE : Hid (Below w.heap.size w wr) := hb.below_from (Nat.le_refl _)
      by_cases hlt : k < xs.length
      · have hcell := u16At (hat.keeps hb hbw (by intro hn; exact absurd hbw (Nat.not_lt.2 hn))) k hlt
        have HE := Lib.hid (map_take_succ (fun x : UInt16 => hexL x.toNat) xs k hlt)
        have HTZ := Lib.hid (htz.below HBE.out)
        have hPk : ((xs.take k).map fun x : UInt16 => hexL x.toNat).length ≤ k := by simp; omega
        have hxl := hexL_len (xs[k]'hlt).toNat
        clear hb ho
        generalize xs[k]'hlt = x at *
        generalize (xs.take k).map (fun x : UInt16 => hexL x.toNat) = P at *
        have hconv : (IntKind.u64.wrap (x.toNat : Int)) = (x.toNat : Int) := by
          have := x.toNat_lt
          exact IntWalk.u64_in _ (by omega)
        have HF := Lib.hid (fun w h => fmt16_any x w h)
        go_wp2_with (first | (go_at_call 148; refine (HF.out _ HTZ.out).mono ?_; rintro e w1 ⟨rfl, hb1⟩; obtain ⟨p1, rfl⟩ := grown_of hb1; clear hb1) | (at_builtin; refine wpList_append_list rfl strCod (.tmp 12) (.tmp 16) 39 rfl rfl (From w.heap.size) _ _ (P) rfl ((HO.out.grown _).alloc _) _ 0 _ _ [hexL x.toNat] rfl rfl (listAt_new _ _ [_] _ rfl (by first | rfl | (simp [go_sem]; done))) (by first | omega | (simp; done) | (simp; omega) | (simp [go_sem]; done) | (simp [go_sem]; omega) | (simp [strCod]; omega)) (by first | omega | (simp; done) | (simp; omega) | (simp [go_sem]; done) | (simp [go_sem]; omega) | (simp [strCod]; omega)) (by first | (show _ ≤ _; first | omega | (simp; omega) | (simp [go_sem]; omega)) | (show _ ∨ _; right; first | omega | (simp; omega) | (simp [go_sem]; omega))) ?_; intro v' w1 ho1 hb1; have HO1 := Lib.hid ho1; have HB1 := Lib.hid hb1; clear ho1 hb1))
        go_roundw
        case rel => exact ⟨k + 1, by omega, by go_num, ((HB.out.grown _).alloc _).trans HB1.out, by rw [HE.out]; exact HO1.out⟩
        case measure => simp [intOf]; omega
      · obtain rfl : k = xs.length := by omega
        rw [List.take_length] at ho
        obtain ⟨a, c, rfl, hc, hli⟩ := ho.slice (B := w.heap.size) (fun _ h => h)
        have HLI := Lib.hid hli
        have HJ := Lib.hid (join_any (xs.map fun x => hexL x.toNat) 58 a c w.heap.size hc (by simp; omega) (by show (writtenL xs).length ≤ _; omega) wr hli)
        clear HO hli
        rw [List.length_map] at HJ hc ⊢
        go_wp2_with (go_at_call 47; refine (HJ.out).mono ?_; rintro e w1 ⟨rfl, hb1⟩; obtain ⟨p1, rfl⟩ := grown_of hb1; clear hb1)
        go_ret
        exact ⟨rfl, below_grown HBE.out HBE.out.size _⟩
end Go.Proofs.YthklfbakffaioaaGreatDoor
