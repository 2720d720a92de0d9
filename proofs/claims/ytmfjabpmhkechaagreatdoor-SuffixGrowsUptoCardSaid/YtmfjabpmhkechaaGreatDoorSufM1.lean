/- Merged: AddrZeros, AddrText6, AddrRefAll, HostAll. -/
import Derived.Test.YtmfjabpmhkechaaGreatDoorFmt16
import Derived.Test.YtmfjabpmhkechaaGreatDoorJoin
import Derived.Test.YtmfjabpmhkechaaGreatDoorSplitG
import Derived.Test.YtmfjabpmhkechaaGreatDoorAddrV6
import Derived.Test.YtmfjabpmhkechaaGreatDoorAddrV4
import Derived.Test.YtmfjabpmhkechaaGreatDoorHostParse
import Derived.Test.YtmfjabpmhkechaaGreatDoorHostQ
namespace Go.Proofs.YtmfjabpmhkechaaGreatDoor
section
open Go Go.RowKit
set_option maxRecDepth 20000
set_option linter.unusedSimpArgs false
set_option linter.unusedVariables false

theorem zState_take (z : List Bool) (k : Nat) (h : k < z.length) : zState (z.take (k + 1)) = zStep (zState (z.take k)) (z[k]'h) := by
  rw [zState, List.take_succ_eq_append_getElem h, List.foldl_append]; rfl
set_option maxHeartbeats 1000000 in
theorem zeros_any (g : GGroups) (w : World) :
    Calls Tryz.prog 81 #[.agg (groupsC g)] w fun e w' => e = .returned (.tuple #[.int .i64 (zAt (nulls g.g) : Int), .int .i64 (zLong (nulls g.g) : Int)]) ∧ Below w.heap.size w w' := by
  go_enter Tryz.func81, Tryz.ntmps81
  go_wp2
  go_loopw [4, 5, 6, 8] (fun at' lg rn i wr => ∃ (k a n r : Nat), k ≤ 8 ∧ a ≤ k ∧ n ≤ k ∧ r ≤ k ∧ at' = .int .i64 a ∧ lg = .int .i64 n ∧ rn = .int .i64 r ∧ i = .int .i64 k ∧ Below w.heap.size w wr ∧ Var wr w.heap.size (groupsL g) ∧ Hid (zState ((nulls g.g).take k) = (k, a, n, r))) (fun _ _ _ i _ => 8 - (intOf i).toNat)
  case atStart => exact ⟨0, 0, 0, 0, by omega, by omega, by omega, by omega, rfl, rfl, rfl, rfl, (by repeat (first | exact Below.refl _ _ | assumption | refine below_grown ?_ (by first | omega | (simp [go_sem]; done) | (simp [go_sem] <;> omega)) _ | refine Below.alloc ?_ (by first | omega | (simp [go_sem]; done) | (simp [go_sem] <;> omega)) _ | refine below_bytesW ?_ (by first | omega | (simp [go_sem]; done) | (simp [go_sem] <;> omega)) _ | refine Below.drew ?_ | refine below_drewN ?_ _)), Var.new _ _ _ rfl rfl, rfl⟩
  case round =>
    obtain ⟨k, a, n, r, hk, ha, hn, hr, rfl, rfl, rfl, rfl, hb, hg, hinv⟩ := hrel
    have hlen := g.len
    have HB := Lib.hid hb
    clear hb
    by_cases hlt : k < 8
    · have hc := u16At hg.list k (by omega)
      rw [Nat.zero_add] at hc
      have hz := zState_take (nulls g.g) k (by simp [nulls]; omega)
      have hzk : (nulls g.g)[k]'(by simp [nulls]; omega) = (g.g[k]'(by omega) == 0) := by simp [nulls]
      rw [hinv.out, hzk] at hz
      have HZ := Lib.hid hz
      clear hz hzk
      generalize g.g[k]'(by omega) = x at *
      by_cases hx : x = 0
      · subst hx
        by_cases hlr : n < r + 1
        · have HV : Hid (zState ((nulls g.g).take (k + 1)) = (k + 1, k + 1 - (r + 1), r + 1, r + 1)) := show _ = _ by rw [HZ.out, zStep]; simp [hlr]
          go_wp2
          go_roundw
          case rel => exact ⟨k + 1, k + 1 - (r + 1), r + 1, r + 1, by omega, by omega, by omega, by omega, by congr 1; omega, by go_num, by go_num, by go_num, HB.out, hg, HV⟩
          case measure => simp [intOf]; omega
        · have HV : Hid (zState ((nulls g.g).take (k + 1)) = (k + 1, a, n, r + 1)) := show _ = _ by rw [HZ.out, zStep]; simp [hlr]
          go_wp2
          go_roundw
          case rel => exact ⟨k + 1, a, n, r + 1, by omega, by omega, by omega, by omega, rfl, rfl, by go_num, by go_num, HB.out, hg, HV⟩
          case measure => simp [intOf]; omega
      · have hx1 : ((x.toNat : Int) != 0) = true := by
          simp only [bne_iff_ne, ne_eq]
          intro h
          exact hx (UInt16.toNat_inj.1 (by simpa using h))
        have hx2 : (x == 0) = false := by simpa using hx
        have HV : Hid (zState ((nulls g.g).take (k + 1)) = (k + 1, a, n, 0)) := show _ = _ by rw [HZ.out, hx2, zStep]; simp
        clear hx hx2
        go_wp2
        go_roundw
        case rel => exact ⟨k + 1, a, n, 0, by omega, by omega, by omega, by omega, rfl, rfl, rfl, by go_num, HB.out, hg, HV⟩
        case measure => simp [intOf]; omega
    · obtain rfl : k = 8 := by omega
      have e := hinv.out
      rw [List.take_of_length_le (by simp [nulls]; omega)] at e
      have E1 : Hid (zAt (nulls g.g) = a) := show _ = _ by rw [zAt, e]
      have E2 : Hid (zLong (nulls g.g) = n) := show _ = _ by rw [zLong, e]
      clear e hinv
      go_wp2
      go_ret2
      exact ⟨by rw [E1.out, E2.out]; rfl, HB.out⟩
theorem hexs_le (xs : List UInt16) : (writtenL xs).length ≤ 5 * xs.length := (written_len xs).1
set_option maxHeartbeats 1000000 in
theorem written_any (xs : List UInt16) (a : Option Addr) (ca lo : Nat) (hxs : xs.length ≤ 8) (w : World) (hin : ListIn u16Cod w a xs lo) (htz : HasTz w) :
    Calls Tryz.prog 82 #[.slice a xs.length ca] w fun e w' => e = .returned (.string ⟨(writtenL xs).toArray⟩) ∧ Below w.heap.size w w' := by
  have hwl := hexs_le xs
  rcases hin with rfl | ⟨b, o, rfl, _, hbw, hat⟩
  · go_enter Tryz.func82, Tryz.ntmps82
    go_wp2
    go_loopw [3, 8] (fun out i wr => out = .slice none 0 0 ∧ i = .int .i64 0 ∧ w = wr) (fun _ _ _ => 0)
    case atStart => exact ⟨rfl, rfl, rfl⟩
    case round =>
      obtain ⟨rfl, rfl, rfl⟩ := hrel
      go_wp2_with (go_at_call 54; refine (join_any [] 58 none 0 0 (Nat.le_refl _) (by simp) (by simp [joinL]) _ (.inl rfl)).mono ?_; rintro e w1 ⟨rfl, hb1⟩; obtain ⟨p1, rfl⟩ := grown_of hb1; clear hb1)
      go_ret
      exact ⟨rfl, (by repeat (first | exact Below.refl _ _ | assumption | refine below_grown ?_ (by first | omega | (simp [go_sem]; done) | (simp [go_sem] <;> omega)) _ | refine Below.alloc ?_ (by first | omega | (simp [go_sem]; done) | (simp [go_sem] <;> omega)) _ | refine below_bytesW ?_ (by first | omega | (simp [go_sem]; done) | (simp [go_sem] <;> omega)) _ | refine Below.drew ?_ | refine below_drewN ?_ _))⟩
  · go_enter Tryz.func82, Tryz.ntmps82
    go_wp2
    go_loopw [3, 8] (fun out i wr => ∃ (k : Nat), k ≤ xs.length ∧ i = .int .i64 k ∧ Keeps (From w.heap.size) w wr ∧ Own strCod (From w.heap.size) wr out ((xs.take k).map fun x => hexL x.toNat)) (fun _ i _ => xs.length - (intOf i).toNat)
    case atStart => exact ⟨0, Nat.zero_le _, rfl, Keeps.refl _ _, Own.nil _ _⟩
    case round =>
      obtain ⟨k, hk, rfl, hb, ho⟩ := hrel
      have hsz := hb.size
      have HB := Lib.hid hb
      have HO := Lib.hid ho
      have HBE : Hid (Below w.heap.size w wr) := hb.below_from (Nat.le_refl _)
      by_cases hlt : k < xs.length
      · have hcell := u16At (hat.keeps hb hbw (by intro hn; exact absurd hbw (Nat.not_lt.2 hn))) k hlt
        have HE := Lib.hid (map_take_succ (fun x : UInt16 => hexL x.toNat) xs k hlt)
        have HTZ := Lib.hid (htz.below HBE.out)
        have hPk : ((xs.take k).map fun x : UInt16 => hexL x.toNat).length ≤ k := by simp; omega
        have hxl := hexL_len (xs[k]'hlt).toNat
        clear hb ho
        generalize xs[k]'hlt = x at *
        generalize (xs.take k).map (fun x : UInt16 => hexL x.toNat) = P at *
        have hconv : (IntKind.u64.wrap (x.toNat : Int)) = (x.toNat : Int) := by
          have := x.toNat_lt
          exact IntWalk.u64_in _ (by omega)
        have HF := Lib.hid (fun w h => fmt16_any x w h)
        go_wp2_with (first | (go_at_call 111; refine (HF.out _ HTZ.out).mono ?_; rintro e w1 ⟨rfl, hb1⟩; obtain ⟨p1, rfl⟩ := grown_of hb1; clear hb1) | (at_builtin; refine wpList_append_list rfl strCod (.tmp 12) (.tmp 16) 46 rfl rfl (From w.heap.size) _ _ (P) rfl ((HO.out.grown _).alloc _) _ 0 _ _ [hexL x.toNat] rfl rfl (listAt_new _ _ [_] _ rfl (by first | rfl | (simp [go_sem]; done))) (by first | omega | (simp; done) | (simp; omega) | (simp [go_sem]; done) | (simp [go_sem]; omega) | (simp [strCod]; omega)) (by first | omega | (simp; done) | (simp; omega) | (simp [go_sem]; done) | (simp [go_sem]; omega) | (simp [strCod]; omega)) (by first | (show _ ≤ _; first | omega | (simp; omega) | (simp [go_sem]; omega)) | (show _ ∨ _; right; first | omega | (simp; omega) | (simp [go_sem]; omega))) ?_; intro v' w1 ho1 hb1; have HO1 := Lib.hid ho1; have HB1 := Lib.hid hb1; clear ho1 hb1))
        go_roundw
        case rel => exact ⟨k + 1, by omega, by go_num, ((HB.out.grown _).alloc _).trans HB1.out, by rw [HE.out]; exact HO1.out⟩
        case measure => simp [intOf]; omega
      · obtain rfl : k = xs.length := by omega
        rw [List.take_length] at ho
        obtain ⟨a, c, rfl, hc, hli⟩ := ho.slice (B := w.heap.size) (fun _ h => h)
        have HLI := Lib.hid hli
        have HJ := Lib.hid (join_any (xs.map fun x => hexL x.toNat) 58 a c w.heap.size hc (by simp; omega) (by show (writtenL xs).length ≤ _; omega) wr hli)
        clear HO hli
        rw [List.length_map] at HJ hc ⊢
        go_wp2_with (go_at_call 54; refine (HJ.out).mono ?_; rintro e w1 ⟨rfl, hb1⟩; obtain ⟨p1, rfl⟩ := grown_of hb1; clear hb1)
        go_ret
        exact ⟨rfl, below_grown HBE.out HBE.out.size _⟩
end

section
open Go Go.RowKit
set_option maxRecDepth 20000
set_option linter.unusedSimpArgs false
set_option linter.unusedVariables false

theorem head_slice (b k : Nat) (hk : k ≤ 8) (w : World) : (Instr.sliceAt 104 (.pointer (some ⟨b, 0, none⟩)) none (some (.int .i64 (k : Int))) none).run Tryz.prog w = .ok (.slice (some ⟨b, 0, none⟩) k 8) w := by
  have ht : Tryz.prog.underlying 104 = some (.array (Tryz.prog.arrayLen 104) (Tryz.prog.elem 104)) := by kernel_rfl
  have hl : Tryz.prog.arrayLen 104 = 8 := by kernel_rfl
  have he : Tryz.prog.elem 104 = 103 := by kernel_rfl
  have hs : ∀ w, (sizeOf 103).run Tryz.prog w = .ok 1 w := fun w => by kernel_rfl
  rw [run_sliceAt_array_h w _ _ ht .i64 _ (by omega) (by rw [hl]; omega), he, hs, hl]
  show Result.ok (slicedAt _ _ _ 8 1) w = _
  simp [slicedAt, add_mk]
theorem tail_slice (b k : Nat) (hk : k ≤ 8) (x : Int) (hx : x = k) (w : World) : (Instr.sliceAt 104 (.pointer (some ⟨b, 0, none⟩)) (some (.int .i64 x)) none none).run Tryz.prog w = .ok (.slice (some (lastAddr b (8 - k))) (8 - k) (8 - k)) w := by
  have e : x = 8 - ((8 - k : Nat) : Int) := by omega
  rw [e]
  exact last_slice b (8 - k) (by omega) w
theorem head_in {w : World} {b k lo : Nat} {xs : List UInt16} (h : ListAt u16Cod w b 0 xs) (hb : b < w.heap.size) (hl : lo ≤ b) : ListIn u16Cod w (some ⟨b, 0, none⟩) (xs.take k) lo := .inr ⟨b, 0, rfl, hl, hb, h.take k⟩
theorem tail_in {w : World} {b k lo : Nat} {xs : List UInt16} (h : ListAt u16Cod w b 0 xs) (hb : b < w.heap.size) (hl : lo ≤ b) (hx : xs.length = 8) (hk : k ≤ 8) : ListIn u16Cod w (some (lastAddr b (8 - k))) (xs.drop k) lo := by
  by_cases h0 : k = 8
  · exact .inl (List.drop_of_length_le (by omega))
  · refine .inr ⟨b, k, ?_, hl, hb, ?_⟩
    · rw [lastAddr, if_neg (by omega), show 8 - (8 - k) = k by omega]
    · have := h.drop k (by omega)
      rwa [show 0 + k * u16Cod.sz = k by show 0 + k * 1 = k; omega] at this
set_option maxHeartbeats 1000000 in
theorem text6_any (a : GAddr) (w : World) (htz : HasTz w) :
    Calls Tryz.prog 53 #[.agg (addrC a)] w fun e w' => e = .returned (.string ⟨(text6L a.b).toArray⟩) ∧ Below w.heap.size w w' := by
  have hg8 : (grpL a.b).length = 8 := (grpG a).len
  have hz8 : (nulls (grpL a.b)).length = 8 := by simp [nulls, hg8]
  have HZ : Hid (∀ w, Calls Tryz.prog 81 #[.agg (groupsC (grpG a))] w fun e w' => e = .returned (.tuple #[.int .i64 (zAt (nulls (grpL a.b)) : Int), .int .i64 (zLong (nulls (grpL a.b)) : Int)]) ∧ Below w.heap.size w w') := fun w => zeros_any (grpG a) w
  have HG : Hid (∀ w, Calls Tryz.prog 80 #[.agg (addrC a)] w fun e w' => e = .returned (.agg (groupsC (grpG a))) ∧ Below w.heap.size w w') := fun w => groups_any a w
  have HW : Hid (∀ (w : World) (x : Option Addr) (ys : List UInt16) (n c lo : Nat), n = ys.length → ys.length ≤ 8 → ListIn u16Cod w x ys lo → HasTz w → Calls Tryz.prog 82 #[.slice x n c] w fun e w' => e = .returned (.string ⟨(writtenL ys).toArray⟩) ∧ Below w.heap.size w w') := fun w x ys n c lo hn h8 hin htz => hn ▸ written_any ys x c lo h8 w hin htz
  by_cases h2 : zLong (nulls (grpL a.b)) < 2
  · have HT : Hid (text6L a.b = writtenL (grpL a.b)) := show _ = _ by rw [text6L, text6G, if_pos h2]
    generalize text6L a.b = T at *
    generalize zLong (nulls (grpL a.b)) = n at *
    generalize zAt (nulls (grpL a.b)) = z at *
    have HX : Hid ((groupsC (grpG a)).toList = u16Cod.encs (grpL a.b)) := rfl
    generalize grpG a = G at *
    generalize grpL a.b = g at *
    go_enter Tryz.func53, Tryz.ntmps53
    go_wp2_with (first
      | (go_at_call 80; refine (HG.out _).mono ?_; rintro e w1 ⟨rfl, hb1⟩; obtain ⟨p1, rfl⟩ := grown_of hb1; clear hb1)
      | (go_at_call 81; refine (HZ.out _).mono ?_; rintro e w1 ⟨rfl, hb1⟩; have hat := (listAt_new (c := u16Cod) (xs := g) _ (groupsC G) _ HX.out (b := w.heap.size + 1 + p1.os.size) (by simp [go_sem])).below hb1; have hbw := bel_up (w := w) (by repeat (first | exact Below.refl _ _ | assumption | refine below_grown ?_ (by first | omega | (simp [go_sem]; done) | (simp [go_sem] <;> omega)) _ | refine Below.alloc ?_ (by first | omega | (simp [go_sem]; done) | (simp [go_sem] <;> omega)) _ | refine below_bytesW ?_ (by first | omega | (simp [go_sem]; done) | (simp [go_sem] <;> omega)) _ | refine Below.drew ?_ | refine below_drewN ?_ _)) hb1; have hbs := hbw.size; have hlt := hb1.size; simp [go_sem] at hlt; clear hb1)
      | (go_at_call 82; refine (HW.out _ _ g 8 8 0 hg8.symm (Nat.le_of_eq hg8) (.inr ⟨_, 0, rfl, Nat.zero_le _, by omega, hat⟩) (htz.below hbw)).mono ?_; rintro e w1 ⟨rfl, hb1⟩; obtain ⟨p1, rfl⟩ := grown_of hb1; clear hb1))
    go_ret
    exact ⟨by rw [HT.out]; rfl, (by repeat (first | exact Below.refl _ _ | assumption | refine below_grown ?_ (by first | omega | (simp [go_sem]; done) | (simp [go_sem] <;> omega)) _ | refine Below.alloc ?_ (by first | omega | (simp [go_sem]; done) | (simp [go_sem] <;> omega)) _ | refine below_bytesW ?_ (by first | omega | (simp [go_sem]; done) | (simp [go_sem] <;> omega)) _ | refine Below.drew ?_ | refine below_drewN ?_ _))⟩
  · have HT : Hid (text6L a.b = writtenL ((grpL a.b).take (zAt (nulls (grpL a.b)))) ++ [58, 58] ++ writtenL ((grpL a.b).drop (zAt (nulls (grpL a.b)) + zLong (nulls (grpL a.b))))) := show _ = _ by rw [text6L, text6G, if_neg h2]
    obtain ⟨_, hzn, _, _⟩ := z_long hz8 (by omega)
    generalize text6L a.b = T at *
    generalize zLong (nulls (grpL a.b)) = n at *
    generalize zAt (nulls (grpL a.b)) = z at *
    have HX : Hid ((groupsC (grpG a)).toList = u16Cod.encs (grpL a.b)) := rfl
    generalize grpG a = G at *
    generalize grpL a.b = g at *
    have HTK : Hid (z = (g.take z).length) := show _ = _ by rw [List.length_take]; omega
    have HDR : Hid (8 - (z + n) = (g.drop (z + n)).length) := show _ = _ by rw [List.length_drop]; omega
    have hsh : ∀ (b : Nat) (w : World), (Instr.sliceAt 104 (.pointer (some ⟨b, 0, none⟩)) none (some (.int .i64 (z : Int))) none).run Tryz.prog w = .ok (.slice (some ⟨b, 0, none⟩) z 8) w := fun b w => head_slice b z (by omega) w
    have hst : ∀ (b : Nat) (w : World), (Instr.sliceAt 104 (.pointer (some ⟨b, 0, none⟩)) (some (.int .i64 ((z : Int) + n))) none none).run Tryz.prog w = .ok (.slice (some (lastAddr b (8 - (z + n)))) (8 - (z + n)) (8 - (z + n))) w := fun b w => tail_slice b (z + n) hzn _ (by simp) w
    have hw1 := hexs_le (g.take z)
    have hw2 := hexs_le (g.drop (z + n))
    rw [List.length_take] at hw1
    rw [List.length_drop] at hw2
    go_enter Tryz.func53, Tryz.ntmps53
    go_wp2_with (first
      | (go_at_call 80; refine (HG.out _).mono ?_; rintro e w1 ⟨rfl, hb1⟩; obtain ⟨p1, rfl⟩ := grown_of hb1; clear hb1)
      | (go_at_call 81; refine (HZ.out _).mono ?_; rintro e w1 ⟨rfl, hb1⟩; have hat := (listAt_new (c := u16Cod) (xs := g) _ (groupsC G) _ HX.out (b := w.heap.size + 1 + p1.os.size) (by simp [go_sem])).below hb1; have hbw := bel_up (w := w) (by repeat (first | exact Below.refl _ _ | assumption | refine below_grown ?_ (by first | omega | (simp [go_sem]; done) | (simp [go_sem] <;> omega)) _ | refine Below.alloc ?_ (by first | omega | (simp [go_sem]; done) | (simp [go_sem] <;> omega)) _ | refine below_bytesW ?_ (by first | omega | (simp [go_sem]; done) | (simp [go_sem] <;> omega)) _ | refine Below.drew ?_ | refine below_drewN ?_ _)) hb1; have hbs := hbw.size; have hlt := hb1.size; simp [go_sem] at hlt; clear hb1))
    have hh := head_in (k := z) (lo := 0) hat (by omega) (Nat.zero_le _)
    have ht := tail_in (k := z + n) (lo := 0) hat (by omega) (Nat.zero_le _) hg8 hzn
    have htz1 := htz.below hbw
    have hn1 : ¬ 9223372036854775807 < (writtenL (g.take z)).length + 2 := by omega
    have hn2 : ¬ 9223372036854775807 < (writtenL (g.take z)).length + 2 + (writtenL (g.drop (z + n))).length := by omega
    have hwr : IntKind.i64.wrap ((z : Int) + n) = (z : Int) + n := IntWalk.i64_in _ (by omega)
    clear hat
    refine wp_region_quiet_grown (by kernel_rfl) (by kernel_rfl) ?_
    repeat (quiet_step ((go_at_call 82; first | (with_reducible exact quiet_grown (HW.out _ _ (g.take z) _ _ 0 HTK.out (by rw [← HTK.out]; omega) (hh.grown _) (htz1.grown _))) | (with_reducible exact quiet_grown (HW.out _ _ (g.drop (z + n)) _ _ 0 HDR.out (by rw [← HDR.out]; omega) (ht.grown _) (htz1.grown _))))))
    refine wpQuiet_nil ?_; intro _ hw'; obtain ⟨pq, hw''⟩ := hw'; subst hw''
    go_wp2
    go_ret
    exact ⟨by rw [HT.out]; simp, (by repeat (first | exact Below.refl _ _ | assumption | refine below_grown ?_ (by first | omega | (simp [go_sem]; done) | (simp [go_sem] <;> omega)) _ | refine Below.alloc ?_ (by first | omega | (simp [go_sem]; done) | (simp [go_sem] <;> omega)) _ | refine below_bytesW ?_ (by first | omega | (simp [go_sem]; done) | (simp [go_sem] <;> omega)) _ | refine Below.drew ?_ | refine below_drewN ?_ _))⟩
end

section
section
open Go Go.RowKit
set_option maxRecDepth 20000
set_option linter.unusedSimpArgs false
set_option linter.unusedVariables false

theorem eight_c {s : List UInt8} (h8 : (splitL 58 s).length = 8) (h : (splitL 58 s).all grpOk = true) : eightOk s = true ∧ (u8Cod.encs (fromTo ((splitL 58 s).map grpR) 8)).toArray = addrC (eightA s) := by
  have hg : ((splitL 58 s).map grpR).length = 8 := by rw [List.length_map, h8]
  obtain ⟨h1, h2⟩ := eight_yes (eight_good h8 h) hg
  refine ⟨h1, ?_⟩
  rw [h2, addrC_encs, fromTo_all _ hg]; rfl
theorem grp_len {x : List UInt8} (h : grpOk x = true) : 1 ≤ x.length ∧ x.length ≤ 4 := by
  unfold grpOk at h
  simp only [Bool.and_eq_true, decide_eq_true_eq] at h
  exact ⟨h.1, h.2.1⟩
theorem grp_short {x : List UInt8} (h : ¬ (1 ≤ x.length ∧ x.length ≤ 4)) : grpOk x = false := by
  cases hg : grpOk x
  · rfl
  · exact absurd (grp_len hg) h
theorem grp_all {x : List UInt8} (h1 : 1 ≤ x.length) (h2 : x.length ≤ 4) (h : hexAll x = true) : grpOk x = true := by
  rw [grpOk, h]; simp [h1, h2]
theorem hexN_hi {x : List UInt8} (h : grpOk x = true) : hexN x < 65536 ∧ IntKind.u8.wrap ((hexN x / 256 : Nat) : Int) = ((hiB (grpR x)).toNat : Int) ∧ IntKind.u8.wrap ((hexN x % 256 : Nat) : Int) = ((loB (grpR x)).toNat : Int) := by
  have h4 := (grp_len h).2
  have hn := grpV_nat x h4
  have hlt := hexN_lt' x h4
  rw [grp_yes h]
  refine ⟨hlt, ?_, ?_⟩
  · rw [IntWalk.u8_in _ (by omega), hiB_nat, hn]
  · rw [IntWalk.u8_in _ (by omega), loB_nat, hn]
set_option maxHeartbeats 2000000 in
theorem eight_any (l : List UInt8) (hl : l.length ≤ 4294967280) (w : World) :
    Calls Tryz.prog 57 #[.string ⟨l.toArray⟩] w fun e w' => e = .returned (.tuple #[.agg (addrC (eightA l)), .bool (eightOk l)]) ∧ Below w.heap.size w w' := by
  have HC : Hid (∀ w, Calls Tryz.prog 28 #[.string ⟨l.toArray⟩, .int .u8 58] w (Gives strCod (splitL 58 l) w)) := fun w => refSplit_any l 58 hl w
  by_cases h8 : (splitL 58 l).length = 8
  · have h8' : (((splitL 58 l).length : Int) != 8) = false := by rw [h8]; rfl
    have HP := Lib.hid (splitL_piece_le 58 l)
    have HN := Lib.hid (splitL_ne 58 l)
    have HBAD : Hid (∀ p ∈ splitL 58 l, grpOk p = false → eightOk l = false ∧ eightA l = zeroA) := fun p hp h => eight_no (eight_badP p hp h)
    have HALL : Hid ((splitL 58 l).all grpOk = true → eightOk l = true ∧ (u8Cod.encs (fromTo ((splitL 58 l).map grpR) 8)).toArray = addrC (eightA l)) := fun h => eight_c h8 h
    generalize splitL 58 l = L at *
    generalize eightOk l = ok at *
    generalize eightA l = A at *
    have hg8 : (L.map grpR).length = 8 := by rw [List.length_map, h8]
    go_enter Tryz.func57, Tryz.ntmps57
    go_wp2_with (go_at_call 28; refine (HC.out _).mono ?_; intro e w1 hg; obtain ⟨b, o, cap, rfl, hcap, hb1, hlo, hhi, hat⟩ := hg.some HN.out; have HBC := Lib.hid (bel_up (w := w) (by repeat (first | exact Below.refl _ _ | assumption | refine below_grown ?_ (by first | omega | (simp [go_sem]; done) | (simp [go_sem] <;> omega)) _ | refine Below.alloc ?_ (by first | omega | (simp [go_sem]; done) | (simp [go_sem] <;> omega)) _ | refine below_bytesW ?_ (by first | omega | (simp [go_sem]; done) | (simp [go_sem] <;> omega)) _ | refine Below.drew ?_ | refine below_drewN ?_ _)) hb1); have HAT := Lib.hid hat; have HR := Lib.hid (Var.below (Var.alloc (Var.new w _ _ rfl rfl : Var (w.alloc _) w.heap.size (u8Cod.encs (List.replicate 16 0))) _) hb1); have HA := Lib.hid (Var.below (Var.new (w.alloc _) _ _ rfl (by simp [go_sem]) : Var ((w.alloc _).alloc _) (w.heap.size + 1) (u8Cod.encs (List.replicate 16 0))) hb1); clear hg hb1 hat)
    have hs0 := HBC.out.size
    have hs1 := HA.out.lt
    have hlo2 : w.heap.size + 1 + 1 ≤ b := by have := hlo; simp [go_sem] at this; omega
    go_loopw [6, 7, 8, 9] (fun i _ _ _ wr => ∃ (k : Nat), k ≤ L.length ∧ i = .int .i64 k ∧ Below w.heap.size w wr ∧ w.heap.size + 1 < wr.heap.size ∧ ListAt strCod wr b o L ∧ Var wr w.heap.size (u8Cod.encs (List.replicate 16 0)) ∧ Var wr (w.heap.size + 1) (u8Cod.encs (fromTo (L.map grpR) k)) ∧ Hid ((L.take k).all grpOk = true)) (fun i _ _ _ _ => L.length - (intOf i).toNat)
    case atStart => exact ⟨0, Nat.zero_le _, rfl, HBC.out, hs1, HAT.out, HR.out, by rw [fromTo_zero]; exact HA.out, rfl⟩
    case round =>
      obtain ⟨k, hk, rfl, hb, hsz, hat, hr, ha, hinv⟩ := hrel
      have HB := Lib.hid hb
      have HAT := Lib.hid hat
      have HR := Lib.hid hr
      have HA := Lib.hid ha
      have hl16 := fromTo_length _ hg8 k (h8 ▸ hk : k ≤ 8)
      by_cases hlt : k < L.length
      · have hlt8 : (k : Int) < 8 := by omega
        have hcell := strAt hat k hlt
        have hx := HP.out _ (List.getElem_mem hlt)
        have HE := Lib.hid (fromTo_succ (L.map grpR) hg8 k (by omega))
        have HAS := Lib.hid (all_take_grp L k hlt)
        have HBK := Lib.hid (HBAD.out _ (List.getElem_mem hlt))
        rw [List.getElem_map] at HE
        have hv : hasVar wr w.heap.size 16 = true := hr.has rfl
        have hc1 : wr.cell? ⟨w.heap.size + 1, 2 * k, none⟩ = some ((u8Cod.encs (fromTo (L.map grpR) k))[2 * k]'(by rw [u8Len, hl16]; omega)) := ha.cell (2 * k) _
        have hc2 : wr.cell? ⟨w.heap.size + 1, 2 * k + 1, none⟩ = some ((u8Cod.encs (fromTo (L.map grpR) k))[2 * k + 1]'(by rw [u8Len, hl16]; omega)) := ha.cell (2 * k + 1) _
        have hf1 : wr.frozen? ⟨w.heap.size + 1, 2 * k, none⟩ = false := ha.free (2 * k)
        have hf2 : wr.frozen? ⟨w.heap.size + 1, 2 * k + 1, none⟩ = false := ha.free (2 * k + 1)
        clear hb hr hat ha
        generalize (u8Cod.encs (fromTo (L.map grpR) k))[2 * k]'_ = v1 at *
        generalize (u8Cod.encs (fromTo (L.map grpR) k))[2 * k + 1]'_ = v2 at *
        generalize L[k]'hlt = x at *
        by_cases hx1 : (x.length : Int) < 1
        · obtain ⟨rfl, rfl⟩ := HBK.out (grp_short (by omega))
          go_wp2
          exact ret_cell_tmp w.heap.size (addrC zeroA) (.bool false) rfl rfl rfl agg_addr (by simp [go_sem, hv]) (by simp [go_sem, hv]) rfl ⟨rfl, below_setRow HB.out (Nat.le_refl _) _⟩
        by_cases hx4 : (4 : Int) < x.length
        · obtain ⟨rfl, rfl⟩ := HBK.out (grp_short (by omega))
          go_wp2
          exact ret_cell_tmp w.heap.size (addrC zeroA) (.bool false) rfl rfl rfl agg_addr (by simp [go_sem, hv]) (by simp [go_sem, hv]) rfl ⟨rfl, below_setRow HB.out (Nat.le_refl _) _⟩
        have hx1' : 1 ≤ x.length := by omega
        have hx4' : x.length ≤ 4 := by omega
        go_wp2
        obtain ⟨wo, hwo⟩ : ∃ wo : World, wo = wr := ⟨_, rfl⟩
        go_loop [7, 8, 9] (fun n i _ => ∃ (j : Nat), j ≤ x.length ∧ i = .int .i64 j ∧ n = .int .i64 (hexN (x.take j)) ∧ Hid (hexAll (x.take j) = true)) (fun _ i _ => x.length - (intOf i).toNat)
        case atStart => exact ⟨0, Nat.zero_le _, rfl, rfl, rfl⟩
        case round =>
          obtain ⟨j, hj, rfl, rfl, hinv2⟩ := hrel
          by_cases hlj : j < x.length
          · have HD := Lib.hid (digit02_any (x[j]'hlj))
            have HT := Lib.hid (hexN_take x j hlj)
            have HS := Lib.hid (all_take_hex x j hlj)
            have hd16 := hexD_lt (x[j]'hlj)
            have hN := hexN_small x j hlj hx4'
            have HBG : Hid (hexD (x[j]'hlj) < 0 → grpOk x = false) := fun h => hexAll_get x j hlj h
            obtain ⟨c, hcc⟩ : ∃ c, ∀ h, x[j]'h = c := ⟨x[j]'hlj, fun _ => rfl⟩
            rw [hcc] at HD HT HS hd16 HBG
            generalize hexN (x.take j) = n at *
            by_cases hd0 : hexD c < 0
            · obtain ⟨rfl, rfl⟩ := HBK.out (HBG.out hd0)
              go_wp2_with (go_at_call 87; refine (HD.out _).mono ?_; intro e w' h; obtain ⟨rfl, h2⟩ := h; subst w')
              exact ret_cell_tmp w.heap.size (addrC zeroA) (.bool false) rfl rfl rfl agg_addr (by simp [go_sem, hv]) (by simp [go_sem, hv]) rfl ⟨rfl, below_setRow HB.out (Nat.le_refl _) _⟩
            · have hd0' : decide (0 ≤ hexD c) = true := decide_eq_true (by omega)
              generalize hexD c = d at *
              go_wp2_with (go_at_call 87; refine (HD.out _).mono ?_; intro e w' h; obtain ⟨rfl, h2⟩ := h; subst w')
              go_round
              case rel => exact ⟨j + 1, by omega, by go_num, by rw [HT.out]; go_num, show _ = true by rw [HS.out, hinv2.out, hd0']; rfl⟩
              case measure => simp [intOf]; omega
          · obtain rfl : j = x.length := by omega
            have hall := hinv2.out
            rw [List.take_length] at hall ⊢
            have hok := grp_all hx1' hx4' hall
            obtain ⟨hn, hh, hlo'⟩ := hexN_hi hok
            have hq : (hexN x : Int).tdiv 256 = ((hexN x / 256 : Nat) : Int) := tdiv_nat _ 256
            have hm : (hexN x : Int).tmod 256 = ((hexN x % 256 : Nat) : Int) := tmod_nat _ 256
            have HOK := Lib.hid hok
            clear hok hall hinv2
            have hq2 : hexN x / 256 < 256 := by omega
            have hm2 : hexN x % 256 < 256 := by omega
            generalize hexN x / 256 = q at *
            generalize hexN x % 256 = r at *
            generalize hexN x = n at *
            have hwq : IntKind.i64.wrap (q : Int) = (q : Int) := IntWalk.i64_in _ (by omega)
            go_wp2
            go_roundw
            case rel =>
              refine ⟨k + 1, by omega, by go_num, (HB.out.setCell (by first | omega | (simp; done) | (simp; omega)) _).setCell (by first | omega | (simp; done) | (simp; omega)) _, by simp [go_sem]; omega, (HAT.out.setCell _ _ (by dsimp only; omega)).setCell _ _ (by dsimp only; omega), (HR.out.setCell_other _ _ (by dsimp only; omega)).setCell_other _ _ (by dsimp only; omega), ?_, show _ = true by rw [HAS.out, hinv.out, HOK.out]; rfl⟩
              rw [HE.out, ← u8Set, ← u8Set, ← hh, ← hlo']
              exact (HA.out.setCell _ _).setCell _ _
            case measure => simp [intOf]; omega
      · obtain rfl : k = L.length := by omega
        have hlt8 : ¬ (L.length : Int) < 8 := by omega
        have hall := hinv.out
        rw [List.take_length] at hall
        obtain ⟨rfl, hA⟩ := HALL.out hall
        rw [h8] at ha
        have h1 : hasRow wr ⟨w.heap.size + 1, 0, none⟩ 16 = true := ha.hasRow (by rw [u8Len, fromTo_length _ hg8 8 (Nat.le_refl _)])
        have h2 : rowAt wr ⟨w.heap.size + 1, 0, none⟩ 16 = addrC A := by rw [ha.rowAt (by rw [u8Len, fromTo_length _ hg8 8 (Nat.le_refl _)]), hA]
        have h3 : hasVar wr w.heap.size 16 = true := hr.has rfl
        go_wp2
        exact ret_cell_tmp w.heap.size (addrC A) (.bool true) rfl rfl rfl agg_addr (by simp [go_sem, h3]) (by simp [go_sem, h3]) rfl ⟨rfl, below_setRow HB.out (Nat.le_refl _) _⟩
  · obtain ⟨e1, e2⟩ := eight_no (eight_not8 h8)
    have h8' : (((splitL 58 l).length : Int) != 8) = true := by simp; omega
    rw [e1, e2]
    generalize splitL 58 l = L at *
    clear e1 e2 h8
    go_enter Tryz.func57, Tryz.ntmps57
    go_wp2_with (go_at_call 28; refine (HC.out _).mono ?_; intro e w1 hg; obtain ⟨a1, c1, rfl, hc1, hb1, hl1⟩ := hg; obtain ⟨p1, rfl⟩ := grown_of hb1; clear hb1)
    exact ret_cell_tmp w.heap.size (addrC zeroA) (.bool false) rfl rfl rfl agg_addr (by simp [go_sem]) (by simp [go_sem]) rfl ⟨rfl, below_setRow (by repeat (first | exact Below.refl _ _ | assumption | refine below_grown ?_ (by first | omega | (simp [go_sem]; done) | (simp [go_sem] <;> omega)) _ | refine Below.alloc ?_ (by first | omega | (simp [go_sem]; done) | (simp [go_sem] <;> omega)) _ | refine below_bytesW ?_ (by first | omega | (simp [go_sem]; done) | (simp [go_sem] <;> omega)) _ | refine Below.drew ?_ | refine below_drewN ?_ _)) (Nat.le_refl _) _⟩
end

section
open Go Go.RowKit
set_option maxRecDepth 20000
set_option linter.unusedSimpArgs false
set_option linter.unusedVariables false

theorem eight_again {t : List UInt8} {ok : Bool} (ht : t.length ≤ 4294967280) (h : eightOk t = ok) (w : World) :
    Calls Tryz.prog 57 #[.string ⟨t.toArray⟩] w fun e w' => e = .returned (.tuple #[.agg (addrC (eightA t)), .bool ok]) ∧ Below w.heap.size w w' := h ▸ eight_any t ht w
theorem eight_isSome {s : List UInt8} (h : eightOk s = true) : ∃ g, eightL s = some g := Option.isSome_iff_exists.1 h
theorem eight_isNone {s : List UInt8} (h : eightOk s = false) : eightL s = none := by
  unfold eightOk at h
  cases he : eightL s with
  | none => rfl
  | some g => rw [he] at h; cases h
theorem zerosT_length : ∀ k, (zerosT k).length = 2 * k + 1
  | 0 => rfl
  | k + 1 => by rw [zerosT, List.length_append, zerosT_length k]; simp; omega
set_option maxHeartbeats 2000000 in
theorem refV6_any (l : List UInt8) (hl : l.length ≤ 2000000000) (w : World) :
    Calls Tryz.prog 37 #[.string ⟨l.toArray⟩] w fun e w' => e = .returned (.tuple #[.agg (addrC (v6A l)), .bool (v6Ok l)]) ∧ Below w.heap.size w w' := by
  cases h8 : eightOk l
  · have HC := Lib.hid (fun w => eight_again (t := l) (by omega) h8 w)
    have hN0 : NoTry l 0 := ⟨eight_isNone h8, fun j hj => by cases hj⟩
    have HDONE : Hid (∀ k, NoTry l k → l.length < k + 2 → v6Ok l = false ∧ v6A l = zeroA) := fun k h hk => v6_no (h.done hk)
    have HTRY : Hid (∀ k j, ccAt l k → eightOk (frontT (l.take k) ++ zerosT j ++ backT (l.drop (k + 2))) = true → v6Ok l = true ∧ v6A l = eightA (frontT (l.take k) ++ zerosT j ++ backT (l.drop (k + 2)))) := fun k j hc h => by
      obtain ⟨g, hg⟩ := eight_isSome h
      exact eight_v6A h ((try_some hc hg).trans hg.symm)
    generalize eightA l = A0 at *
    generalize v6A l = A at *
    generalize v6Ok l = ok at *
    go_enter Tryz.func37, Tryz.ntmps37
    go_wp2_with (go_at_call 57; refine (HC.out _).mono ?_; rintro e w1 ⟨rfl, hb1⟩; obtain ⟨p1, rfl⟩ := grown_of hb1; clear hb1)
    go_loopw [6, 7, 8, 9, 10, 11, 12] (fun i _ _ _ _ _ _ wr => ∃ (k : Nat), k ≤ l.length ∧ i = .int .i64 k ∧ Below w.heap.size w wr ∧ w.heap.size < wr.heap.size ∧ Var wr w.heap.size (u8Cod.encs (List.replicate 16 0)) ∧ Hid (NoTry l k)) (fun i _ _ _ _ _ _ _ => l.length - (intOf i).toNat)
    case atStart => exact ⟨0, Nat.zero_le _, rfl, (by repeat (first | exact Below.refl _ _ | assumption | refine below_grown ?_ (by first | omega | (simp [go_sem]; done) | (simp [go_sem] <;> omega)) _ | refine Below.alloc ?_ (by first | omega | (simp [go_sem]; done) | (simp [go_sem] <;> omega)) _ | refine below_bytesW ?_ (by first | omega | (simp [go_sem]; done) | (simp [go_sem] <;> omega)) _ | refine Below.drew ?_ | refine below_drewN ?_ _)), by simp [go_sem], ((Var.new w _ _ rfl rfl : Var (w.alloc _) w.heap.size (u8Cod.encs (List.replicate 16 0))).grown _).alloc _, hN0⟩
    case round =>
      obtain ⟨k, hk, rfl, hb, hsz, hr, hinv⟩ := hrel
      have HB := Lib.hid hb
      have HR := Lib.hid hr
      clear hb hr
      have hv : hasVar wr w.heap.size 16 = true := HR.out.has rfl
      by_cases hlt : k + 2 ≤ l.length
      · have hlt' : (k : Int) + 2 ≤ l.length := by omega
        have hcc := cc_at (s := l) (i := k) hlt
        obtain ⟨c, hc⟩ : ∃ c, ∀ h, l[k]'h = c := ⟨l[k]'(by omega), fun _ => rfl⟩
        obtain ⟨d, hd⟩ : ∃ d, ∀ h, l[k + 1]'h = d := ⟨l[k + 1]'(by omega), fun _ => rfl⟩
        rw [hc, hd] at hcc
        by_cases h1 : c = 58
        · by_cases h2 : d = 58
          · have HCC := Lib.hid (hcc.2 ⟨h1, h2⟩)
            have h1' : ((c.toNat : Int) != 58) = false := by subst h1; rfl
            have h2' : ((d.toNat : Int) != 58) = false := by subst h2; rfl
            clear hcc h1 h2
            have HFX : ((l.take k).isEmpty = true ∧ frontT (l.take k) = l.take k) ∨ ((l.take k).isEmpty = false ∧ frontT (l.take k) = l.take k ++ [58]) := by unfold frontT; cases l.take k <;> simp
            have HBY : ((l.drop (k + 2)).isEmpty = true ∧ backT (l.drop (k + 2)) = l.drop (k + 2)) ∨ ((l.drop (k + 2)).isEmpty = false ∧ backT (l.drop (k + 2)) = 58 :: l.drop (k + 2)) := by unfold backT; cases l.drop (k + 2) <;> simp
            have HT0 := Lib.hid (fun j => HTRY.out k j HCC.out)
            have HNX0 : Hid ((∀ j, j < 8 → eightOk (frontT (l.take k) ++ zerosT j ++ backT (l.drop (k + 2))) = false) → NoTry l (k + 1)) := fun h => hinv.out.next (try_none fun j hj => eight_isNone (h j hj))
            have hFl : (frontT (l.take k)).length ≤ l.length + 1 := by rcases HFX with ⟨_, e⟩ | ⟨_, e⟩ <;> rw [e] <;> simp <;> omega
            have hBl : (backT (l.drop (k + 2))).length ≤ l.length + 1 := by rcases HBY with ⟨_, e⟩ | ⟨_, e⟩ <;> rw [e] <;> simp <;> omega
            obtain ⟨F, hF0⟩ : ∃ F, F = frontT (l.take k) := ⟨_, rfl⟩
            obtain ⟨B, hB0⟩ : ∃ B, B = backT (l.drop (k + 2)) := ⟨_, rfl⟩
            have HT : Hid (∀ j, eightOk (F ++ zerosT j ++ B) = true → ok = true ∧ A = eightA (F ++ zerosT j ++ B)) := by rw [hF0, hB0]; exact HT0.out
            have HNX : Hid ((∀ j, j < 8 → eightOk (F ++ zerosT j ++ B) = false) → NoTry l (k + 1)) := by rw [hF0, hB0]; exact HNX0.out
            rw [← hF0] at hFl HFX
            rw [← hB0] at hBl HBY
            clear hF0 hB0
            rcases HFX with ⟨hx, hF⟩ | ⟨hx, hF⟩
            all_goals
              rcases HBY with ⟨hy, hB⟩ | ⟨hy, hB⟩
            all_goals
              go_wp2
              rw [← hF, ← hB]
              clear hF hB hx hy
              clear HNX0 HT0
              go_loopw [9, 10, 11, 12] (fun z i _ _ wr => ∃ (j : Nat), j ≤ 8 ∧ z = .string ⟨(zerosT j).toArray⟩ ∧ i = .int .i64 j ∧ Below w.heap.size w wr ∧ w.heap.size < wr.heap.size ∧ Var wr w.heap.size (u8Cod.encs (List.replicate 16 0)) ∧ Hid (∀ i, i < j → eightOk (F ++ zerosT i ++ B) = false)) (fun _ i _ _ _ => 8 - (intOf i).toNat)
              case atStart => exact ⟨0, Nat.zero_le _, rfl, rfl, HB.out, hsz, HR.out, fun i hi => by cases hi⟩
              case round =>
                obtain ⟨j, hj, rfl, rfl, hb, hsz', hr, hno⟩ := hrel
                have HB' := Lib.hid hb
                have HR' := Lib.hid hr
                clear hb hr
                have hv' : ∀ p o, hasVar ((grown wr p).alloc o) w.heap.size 16 = true := fun p o => ((HR'.out.grown p).alloc o).has rfl
                by_cases hj8 : j < 8
                · have hj8' : (j : Int) < 8 := by omega
                  have hzl := zerosT_length j
                  have HTJ := Lib.hid (HT.out j)
                  have HZ : Hid (zerosT (j + 1) = zerosT j ++ [58, 48]) := rfl
                  have hNJ := hno.out
                  cases he : eightOk (F ++ zerosT j ++ B)
                  · have HN : Hid (∀ i, i < j + 1 → eightOk (F ++ zerosT i ++ B) = false) := fun i hi => by
                      by_cases e : i = j
                      · subst e; exact he
                      · exact hNJ i (by omega)
                    clear hNJ hno
                    generalize hZj : zerosT j = Z at *
                    have HE := Lib.hid (fun w => eight_again (t := F ++ Z ++ B) (by simp; omega) he w)
                    clear he
                    rw [List.append_assoc] at HE
                    generalize eightA (F ++ (Z ++ B)) = A1 at *
                    have hn1 : ¬ 9223372036854775807 < F.length + Z.length := by omega
                    have hn2 : ¬ 9223372036854775807 < F.length + Z.length + B.length := by omega
                    have hn3 : ¬ 9223372036854775807 < F.length + (Z.length + B.length) := by omega
                    have hn4 : ¬ 9223372036854775807 < Z.length + 2 := by omega
                    go_wp2_with (go_at_call 57; refine (HE.out _).mono ?_; rintro e w1 ⟨rfl, hb1⟩; obtain ⟨p1, rfl⟩ := grown_of hb1; clear hb1)
                    go_roundw
                    case rel => exact ⟨j + 1, by omega, by rw [HZ.out], by go_num, ((below_grown HB'.out HB'.out.size _).alloc (by first | omega | (simp; done) | (simp; omega) | (simp [go_sem]; done) | (simp [go_sem]; omega)) _), by simp [go_sem]; omega, (HR'.out.grown _).alloc _, HN.out⟩
                    case measure => simp [intOf]; omega
                  · obtain ⟨rfl, hA⟩ := HTJ.out he
                    have HE := Lib.hid (fun w => eight_again (t := F ++ zerosT j ++ B) (by simp; omega) he w)
                    rw [← hA, List.append_assoc] at HE
                    clear he hNJ hno HZ hA HTJ
                    generalize hZj : zerosT j = Z at *
                    have hn1 : ¬ 9223372036854775807 < F.length + Z.length := by omega
                    have hn2 : ¬ 9223372036854775807 < F.length + Z.length + B.length := by omega
                    have hn3 : ¬ 9223372036854775807 < F.length + (Z.length + B.length) := by omega
                    go_wp2_with (go_at_call 57; refine (HE.out _).mono ?_; rintro e w1 ⟨rfl, hb1⟩; obtain ⟨p1, rfl⟩ := grown_of hb1; clear hb1)
                    exact ret_cell_tmp w.heap.size (addrC A) (.bool true) rfl rfl rfl agg_addr (by simp [go_sem, hv']) (by simp [go_sem, hv']) rfl ⟨by simp, below_setRow ((below_grown HB'.out HB'.out.size _).alloc (by first | omega | (simp; done) | (simp; omega) | (simp [go_sem]; done) | (simp [go_sem]; omega)) _) (Nat.le_refl _) _⟩
                · obtain rfl : j = 8 := by omega
                  have HNN := Lib.hid (HNX.out hno.out)
                  go_wp2
                  go_roundw
                  case rel => exact ⟨k + 1, by omega, by go_num, HB'.out, hsz', HR'.out, HNN.out⟩
                  case measure => simp [intOf]; omega
          · have HS := Lib.hid (hinv.out.skip fun h => h2 (hcc.1 h).2)
            have h1' : ((c.toNat : Int) != 58) = false := by subst h1; rfl
            have h2' : ((d.toNat : Int) != 58) = true := by rw [u8_lit_ne d 58 58 rfl]; simpa using h2
            clear hcc h1 h2
            go_wp2
            go_roundw
            case rel => exact ⟨k + 1, by omega, by go_num, HB.out, hsz, HR.out, HS.out⟩
            case measure => simp [intOf]; omega
        · have HS := Lib.hid (hinv.out.skip fun h => h1 (hcc.1 h).1)
          have h1' : ((c.toNat : Int) != 58) = true := by rw [u8_lit_ne c 58 58 rfl]; simpa using h1
          clear hcc h1
          go_wp2
          go_roundw
          case rel => exact ⟨k + 1, by omega, by go_num, HB.out, hsz, HR.out, HS.out⟩
          case measure => simp [intOf]; omega
      · have hlt' : ¬ (k : Int) + 2 ≤ l.length := by omega
        obtain ⟨rfl, rfl⟩ := HDONE.out _ hinv.out (by omega)
        go_wp2
        exact ret_cell_tmp w.heap.size (addrC zeroA) (.bool false) rfl rfl rfl agg_addr (by simp [go_sem, hv]) (by simp [go_sem, hv]) rfl ⟨rfl, below_setRow HB.out (Nat.le_refl _) _⟩
  · obtain ⟨e1, e2⟩ := eight_v6A (t := l) h8 (by obtain ⟨g, hg⟩ := eight_isSome h8; rw [eight_v6 hg, hg])
    have HC := Lib.hid (fun w => eight_again (t := l) (by omega) h8 w)
    rw [e1, e2]
    generalize eightA l = A at *
    go_enter Tryz.func37, Tryz.ntmps37
    go_wp2_with (go_at_call 57; refine (HC.out _).mono ?_; rintro e w1 ⟨rfl, hb1⟩; obtain ⟨p1, rfl⟩ := grown_of hb1; clear hb1)
    exact ret_cell_tmp w.heap.size (addrC A) (.bool true) rfl rfl rfl agg_addr (by simp [go_sem]) (by simp [go_sem]) rfl ⟨by simp, below_setRow (by repeat (first | exact Below.refl _ _ | assumption | refine below_grown ?_ (by first | omega | (simp [go_sem]; done) | (simp [go_sem] <;> omega)) _ | refine Below.alloc ?_ (by first | omega | (simp [go_sem]; done) | (simp [go_sem] <;> omega)) _ | refine below_bytesW ?_ (by first | omega | (simp [go_sem]; done) | (simp [go_sem] <;> omega)) _ | refine Below.drew ?_ | refine below_drewN ?_ _)) (Nat.le_refl _) _⟩
end

section
open Go Go.RowKit
set_option maxRecDepth 20000
set_option linter.unusedSimpArgs false
set_option linter.unusedVariables false

theorem seg_succ {α : Type} (G : List α) (f i : Nat) (hf : f ≤ i) (hi : i < G.length) : (G.take (i + 1)).drop f = (G.take i).drop f ++ [G[i]'hi] := by
  rw [List.take_succ_eq_append_getElem hi, List.drop_append_of_le_length (by rw [List.length_take]; omega)]
theorem part_first (G : List UInt16) (f : Nat) (hf : f < G.length) : writtenL ((G.take (f + 1)).drop f) = hexL (G[f]'hf).toNat := by
  rw [seg_succ G f f (Nat.le_refl _) hf, List.drop_of_length_le (by rw [List.length_take]; omega)]
  simp [writtenL, joinL]
theorem part_next (G : List UInt16) (f i : Nat) (hf : f < i) (hi : i < G.length) : writtenL ((G.take (i + 1)).drop f) = writtenL ((G.take i).drop f) ++ [58] ++ hexL (G[i]'hi).toNat := by
  rw [seg_succ G f i (by omega) hi, writtenL, List.map_append, List.map_singleton, joinL_snoc 58 _ _ (by
    intro e
    have := congrArg List.length e
    simp at this
    omega)]
  rfl
theorem part_len (G : List UInt16) (hG : G.length = 8) (f i : Nat) : (writtenL ((G.take i).drop f)).length ≤ 40 := by
  have := hexs_le ((G.take i).drop f)
  rw [List.length_drop, List.length_take] at this
  omega
set_option maxHeartbeats 1000000 in
theorem part_any (a : GAddr) (f t : Nat) (hf : f ≤ t) (ht : t ≤ 8) (w : World) :
    Calls Tryz.prog 61 #[.agg (addrC a), .int .i64 (f : Int), .int .i64 (t : Int)] w fun e w' => e = .returned (.string ⟨(writtenL (((grpL a.b).take t).drop f)).toArray⟩) ∧ Below w.heap.size w w' := by
  have hG : (grpL a.b).length = 8 := (grpG a).len
  have HGR := Lib.hid (fun k hk hk' w => group02_any a k hk hk' w)
  have HPL := Lib.hid (part_len (grpL a.b) hG f)
  have HVA : Hid (Var (w.alloc (Obj.cells (addrC a) 24)) w.heap.size (addrL a)) := Var.new _ _ _ rfl rfl
  have hal : (addrL a).length = 16 := addrL_length a
  have hac : (addrL a).toArray = addrC a := rfl
  generalize hS : writtenL (((grpL a.b).take t).drop f) = S
  generalize grpL a.b = G at *
  generalize hAC : addrC a = ac at *
  generalize addrL a = al at *
  go_enter Tryz.func61, Tryz.ntmps61
  go_wp2
  go_loopw [7, 8] (fun s i wr => ∃ (k : Nat), f ≤ k ∧ k ≤ t ∧ i = .int .i64 k ∧ s = .string ⟨(writtenL ((G.take k).drop f)).toArray⟩ ∧ Below w.heap.size w wr ∧ w.heap.size < wr.heap.size ∧ Var wr w.heap.size al) (fun _ i _ => t - (intOf i).toNat)
  case atStart => exact ⟨f, Nat.le_refl _, hf, rfl, by rw [List.drop_of_length_le (by rw [List.length_take]; omega)]; rfl, (by repeat (first | exact Below.refl _ _ | assumption | refine below_grown ?_ (by first | omega | (simp [go_sem]; done) | (simp [go_sem] <;> omega)) _ | refine Below.alloc ?_ (by first | omega | (simp [go_sem]; done) | (simp [go_sem] <;> omega)) _ | refine below_bytesW ?_ (by first | omega | (simp [go_sem]; done) | (simp [go_sem] <;> omega)) _ | refine Below.drew ?_ | refine below_drewN ?_ _)), by simp [go_sem], HVA.out⟩
  case round =>
    obtain ⟨k, hfk, hk, rfl, rfl, hb, hsz, hv⟩ := hrel
    have HB := Lib.hid hb
    have HV := Lib.hid hv
    have h1 : hasRow wr ⟨w.heap.size, 0, none⟩ 16 = true := hv.hasRow hal
    have h2 : rowAt wr ⟨w.heap.size, 0, none⟩ 16 = ac := by rw [hv.rowAt hal, hac]
    clear hb hv
    by_cases hlt : k < t
    · have HG := Lib.hid (HGR.out k (by omega) (by omega))
      have hx := (G[k]'(by omega)).toNat_lt
      have HX := Lib.hid (fun w => hex_any (G[k]'(by omega : k < G.length)).toNat hx w)
      have hxl := (hexL_len (G[k]'(by omega : k < G.length)).toNat).2
      have hpl := HPL.out k
      by_cases hgt : f < k
      · have HE := Lib.hid (part_next G f k hgt (by omega))
        generalize writtenL ((G.take k).drop f) = P at *
        generalize (G[k]'(by omega : k < G.length)).toNat = x at *
        generalize hexL x = X at *
        have hn1 : ¬ 9223372036854775807 < P.length + 1 := by omega
        have hn2 : ¬ 9223372036854775807 < P.length + 1 + X.length := by omega
        go_wp2_with (first
          | (go_at_call 60; refine (HG.out _).mono ?_; rintro e w1 ⟨rfl, hb1⟩; obtain ⟨p1, rfl⟩ := grown_of hb1; clear hb1)
          | (go_at_call 88; refine (HX.out _).mono ?_; rintro e w1 ⟨rfl, hb1⟩; obtain ⟨p1, rfl⟩ := grown_of hb1; clear hb1))
        go_roundw
        case rel => exact ⟨k + 1, by omega, by omega, by go_num, by rw [HE.out]; simp, below_grown (below_grown HB.out HB.out.size _) (by first | omega | (simp; done) | (simp; omega) | (simp [go_sem]; done) | (simp [go_sem]; omega)) _, by simp [go_sem]; omega, (HV.out.grown _).grown _⟩
        case measure => simp [intOf]; omega
      · obtain rfl : f = k := by omega
        have HE := Lib.hid (part_first G f (by omega))
        have HP0 : Hid (writtenL ((G.take f).drop f) = []) := show _ = _ by rw [List.drop_of_length_le (by rw [List.length_take]; omega)]; rfl
        rw [HP0.out]
        generalize (G[f]'(by omega : f < G.length)).toNat = x at *
        generalize hexL x = X at *
        go_wp2_with (first
          | (go_at_call 60; refine (HG.out _).mono ?_; rintro e w1 ⟨rfl, hb1⟩; obtain ⟨p1, rfl⟩ := grown_of hb1; clear hb1)
          | (go_at_call 88; refine (HX.out _).mono ?_; rintro e w1 ⟨rfl, hb1⟩; obtain ⟨p1, rfl⟩ := grown_of hb1; clear hb1))
        go_roundw
        case rel => exact ⟨f + 1, by omega, by omega, by go_num, by rw [HE.out], below_grown (below_grown HB.out HB.out.size _) (by first | omega | (simp; done) | (simp; omega) | (simp [go_sem]; done) | (simp [go_sem]; omega)) _, by simp [go_sem]; omega, (HV.out.grown _).grown _⟩
        case measure => simp [intOf]; omega
    · obtain rfl : k = t := by omega
      go_wp2
      go_ret
      exact ⟨ret_str hS, HB.out⟩
theorem win_zero (z : List Bool) (a : Nat) : winB z a 0 = true := by simp [winB]
theorem win_succ (z : List Bool) (a n : Nat) (h : a + n < z.length) : winB z a (n + 1) = (winB z a n && z[a + n]'h) := by
  unfold winB
  rw [List.take_succ_eq_append_getElem (by rw [List.length_drop]; omega), List.all_append, List.getElem_drop]
  simp
theorem nulls_get (g : List UInt16) (k : Nat) (h : k < g.length) (h2 : k < (nulls g).length) : (nulls g)[k]'h2 = (((g[k]'h).toNat : Int) == 0) := by
  have e : (nulls g)[k]'h2 = (g[k]'h == 0) := by simp [nulls]
  rw [e, Bool.eq_iff_iff, beq_iff_eq, beq_iff_eq, ← UInt16.toNat_inj]
  show (_ = 0) ↔ _
  omega
set_option maxHeartbeats 2000000 in
theorem refText6_any (a : GAddr) (w : World) :
    Calls Tryz.prog 43 #[.agg (addrC a)] w fun e w' => e = .returned (.string ⟨(text6L a.b).toArray⟩) ∧ Below w.heap.size w w' := by
  have hG : (grpL a.b).length = 8 := (grpG a).len
  have hz8 : (nulls (grpL a.b)).length = 8 := by simp [nulls, hG]
  have HGR := Lib.hid (fun k hk hk' w => group02_any a k hk hk' w)
  have HPT := Lib.hid (fun f t hf ht w => part_any a f t hf ht w)
  have HPL := Lib.hid (part_len (grpL a.b) hG)
  have HVA : Hid (Var (w.alloc (Obj.cells (addrC a) 24)) w.heap.size (addrL a)) := Var.new _ _ _ rfl rfl
  have HNL : Hid (∀ k (h : k < (nulls (grpL a.b)).length) (h' : k < (grpL a.b).length), (nulls (grpL a.b))[k]'h = ((((grpL a.b)[k]'h').toNat : Int) == 0)) := fun k h h' => nulls_get _ k h' h
  have HFIRST : Hid (∀ n p, 2 ≤ n → p + n ≤ 8 → winB (nulls (grpL a.b)) p n = true → (∀ n' a', n < n' → a' + n' ≤ 8 → winB (nulls (grpL a.b)) a' n' = false) → (∀ a', a' < p → winB (nulls (grpL a.b)) a' n = false) → writtenL (((grpL a.b).take p).drop 0) ++ [58, 58] ++ writtenL (((grpL a.b).take 8).drop (p + n)) = text6L a.b) := fun n p h1 h2 h3 h4 h5 => by
    obtain ⟨e1, e2⟩ := z_first hz8 h1 h2 h3 h4 h5
    rw [text6L, text6G, e1, e2, if_neg (by omega), List.drop_zero, List.take_of_length_le (Nat.le_of_eq hG)]
  have HLAST : Hid ((∀ n' a', 1 < n' → a' + n' ≤ 8 → winB (nulls (grpL a.b)) a' n' = false) → writtenL (((grpL a.b).take 8).drop 0) = text6L a.b) := fun h => by
    have hs : zLong (nulls (grpL a.b)) < 2 := by
      rcases Nat.lt_or_ge (zLong (nulls (grpL a.b))) 2 with h' | h'
      · exact h'
      · obtain ⟨w1, w2, _⟩ := z_long hz8 h'
        rw [h _ _ (by omega) w2] at w1; cases w1
    rw [text6L, text6G, if_pos hs, List.drop_zero, List.take_of_length_le (Nat.le_of_eq hG)]
  have hal : (addrL a).length = 16 := addrL_length a
  have hac : (addrL a).toArray = addrC a := rfl
  generalize text6L a.b = T at *
  generalize nulls (grpL a.b) = z at *
  generalize grpL a.b = G at *
  generalize hAC : addrC a = ac at *
  generalize addrL a = al at *
  go_enter Tryz.func43, Tryz.ntmps43
  go_wp2
  go_loopw [3, 4, 5, 6] (fun lo _ _ _ wr => ∃ (n : Nat), 1 ≤ n ∧ n ≤ 8 ∧ lo = .int .i64 n ∧ Below w.heap.size w wr ∧ w.heap.size < wr.heap.size ∧ Var wr w.heap.size al ∧ Hid (∀ n' a', n < n' → a' + n' ≤ 8 → winB z a' n' = false)) (fun lo _ _ _ _ => (intOf lo).toNat)
  case atStart => exact ⟨8, by omega, by omega, rfl, (by repeat (first | exact Below.refl _ _ | assumption | refine below_grown ?_ (by first | omega | (simp [go_sem]; done) | (simp [go_sem] <;> omega)) _ | refine Below.alloc ?_ (by first | omega | (simp [go_sem]; done) | (simp [go_sem] <;> omega)) _ | refine below_bytesW ?_ (by first | omega | (simp [go_sem]; done) | (simp [go_sem] <;> omega)) _ | refine Below.drew ?_ | refine below_drewN ?_ _)), by simp [go_sem], HVA.out, fun n' a' h h' => by omega⟩
  case round =>
    obtain ⟨n, hn1, hn8, rfl, hb, hsz, hv, hno⟩ := hrel
    have HB := Lib.hid hb
    have HV := Lib.hid hv
    have h1 : hasRow wr ⟨w.heap.size, 0, none⟩ 16 = true := hv.hasRow hal
    have h2 : rowAt wr ⟨w.heap.size, 0, none⟩ 16 = ac := by rw [hv.rowAt hal, hac]
    clear hb hv
    by_cases hn2 : 2 ≤ n
    · have hn2' : (2 : Int) ≤ n := by omega
      clear h1 h2
      go_wp2
      obtain ⟨wo, hwo⟩ : ∃ wo : World, wo = wr := ⟨_, rfl⟩
      go_loopw [4, 5, 6] (fun at' _ _ wr => ∃ (p : Nat), p + n ≤ 9 ∧ at' = .int .i64 p ∧ Below w.heap.size w wr ∧ w.heap.size < wr.heap.size ∧ Var wr w.heap.size al ∧ Hid (∀ a', a' < p → winB z a' n = false)) (fun at' _ _ _ => 9 - (intOf at').toNat)
      case atStart => exact ⟨0, by omega, rfl, HB.out, hsz, HV.out, fun a' h => by cases h⟩
      case round =>
        obtain ⟨p, hp, rfl, hb, hsz1, hv, hno2⟩ := hrel
        have HB1 := Lib.hid hb
        have HV1 := Lib.hid hv
        clear hb hv
        by_cases hp8 : p + n ≤ 8
        · have hp8' : (p : Int) + n ≤ 8 := by omega
          go_wp2
          obtain ⟨wo1, hwo1⟩ : ∃ wo : World, wo = wr := ⟨_, rfl⟩
          go_loopw [5, 6] (fun all i wr => ∃ (j : Nat) (b : Bool), j ≤ n ∧ i = .int .i64 ((p + j : Nat) : Int) ∧ all = .bool b ∧ b = winB z p j ∧ Below w.heap.size w wr ∧ w.heap.size < wr.heap.size ∧ Var wr w.heap.size al) (fun _ i _ => p + n - (intOf i).toNat)
          case atStart => exact ⟨0, true, by omega, rfl, rfl, (win_zero z p).symm, HB1.out, hsz1, HV1.out⟩
          case round =>
            obtain ⟨j, b, hj, rfl, rfl, hbw, hb, hsz2, hv⟩ := hrel
            have HB2 := Lib.hid hb
            have HV2 := Lib.hid hv
            have h1 : hasRow wr ⟨w.heap.size, 0, none⟩ 16 = true := hv.hasRow hal
            have h2 : rowAt wr ⟨w.heap.size, 0, none⟩ 16 = ac := by rw [hv.rowAt hal, hac]
            clear hb hv
            by_cases hjn : j < n
            · have hjn' : ((p + j : Nat) : Int) < (p : Int) + n := by omega
              have HW := Lib.hid (win_succ z p j (by omega))
              have HG := Lib.hid (HGR.out (p + j) (by omega) (by omega))
              have hq := HNL.out (p + j) (by omega) (by omega)
              generalize (G[p + j]'(by omega : p + j < G.length)).toNat = x at *
              generalize z[p + j]'(by omega : p + j < z.length) = zb at *
              have hq' := hq.symm
              clear hq
              have HBW := Lib.hid hbw
              clear hbw
              cases b
              · go_wp2
                go_roundw
                case rel => exact ⟨j + 1, false, by omega, by go_num, rfl, by rw [HW.out, ← HBW.out]; rfl, HB2.out, hsz2, HV2.out⟩
                case measure => simp [intOf]; omega
              · go_wp2_with (go_at_call 60; refine (HG.out _).mono ?_; rintro e w1 ⟨rfl, hb1⟩; obtain ⟨p1, rfl⟩ := grown_of hb1; clear hb1)
                go_roundw
                case rel => exact ⟨j + 1, zb, by omega, by go_num, rfl, by rw [HW.out, ← HBW.out]; rfl, below_grown HB2.out HB2.out.size _, by simp [go_sem]; omega, HV2.out.grown _⟩
                case measure => simp [intOf]; omega
            · obtain rfl : j = n := by omega
              have hjn' : ¬ ((p + j : Nat) : Int) < (p : Int) + j := by omega
              cases b
              · have HNN : Hid (∀ a', a' < p + 1 → winB z a' j = false) := fun a' h => by
                  by_cases e : a' = p
                  · subst e; exact hbw.symm
                  · exact hno2.out a' (by omega)
                clear hbw
                go_wp2
                go_roundw
                case rel => exact ⟨p + 1, by omega, by go_num, HB2.out, hsz2, HV2.out, HNN.out⟩
                case measure => simp [intOf]; omega
              · have hT := HFIRST.out j p hn2 hp8 hbw.symm hno.out hno2.out
                have HT := Lib.hid hT
                have HA := Lib.hid (HPT.out 0 p (by omega) (by omega))
                have HC : Hid (∀ w, Calls Tryz.prog 61 #[.agg ac, .int .i64 ((p : Int) + j), .int .i64 8] w fun e w' => e = .returned (.string ⟨(writtenL ((G.take 8).drop (p + j))).toArray⟩) ∧ Below w.heap.size w w') := fun w => by
                  have := HPT.out (p + j) 8 hp8 (by omega) w
                  rwa [Int.natCast_add] at this
                have hl1 := HPL.out 0 p
                have hl2 := HPL.out (p + j) 8
                clear hbw hT
                generalize writtenL ((G.take p).drop 0) = X at *
                generalize writtenL ((G.take 8).drop (p + j)) = Y at *
                have hn1 : ¬ 9223372036854775807 < X.length + 2 := by omega
                have hn2 : ¬ 9223372036854775807 < X.length + 2 + Y.length := by omega
                have hwr : IntKind.i64.wrap ((p : Int) + j) = (p : Int) + j := IntWalk.i64_in _ (by omega)
                have h3 : ∀ p, hasRow (grown wr p) ⟨w.heap.size, 0, none⟩ 16 = true := fun p => (HV2.out.grown p).hasRow hal
                have h4 : ∀ p, rowAt (grown wr p) ⟨w.heap.size, 0, none⟩ 16 = ac := fun p => by rw [(HV2.out.grown p).rowAt hal, hac]
                go_wp2
                refine wp_region_quiet_grown (by kernel_rfl) (by kernel_rfl) ?_
                repeat (quiet_step ((go_at_call 61; first | (with_reducible exact quiet_grown (HA.out _)) | (with_reducible exact quiet_grown (HC.out _)))))
                refine wpQuiet_nil ?_; intro _ hw'; obtain ⟨pq, hw''⟩ := hw'; subst hw''
                go_wp2
                go_ret
                exact ⟨ret_str (by rw [← HT.out]; simp), below_grown HB2.out HB2.out.size _⟩
        · have hp8' : ¬ (p : Int) + n ≤ 8 := by omega
          have HNN : Hid (∀ n' a', n - 1 < n' → a' + n' ≤ 8 → winB z a' n' = false) := fun n' a' h h' => by
            by_cases e : n' = n
            · subst e; exact hno2.out a' (by omega)
            · exact hno.out n' a' (by omega) h'
          go_wp2
          go_roundw
          case rel => exact ⟨n - 1, by omega, by omega, by go_num, HB1.out, hsz1, HV1.out, HNN.out⟩
          case measure => simp [intOf]; omega
    · obtain rfl : n = 1 := by omega
      have HT := Lib.hid (HLAST.out hno.out)
      have HA := Lib.hid (HPT.out 0 8 (by omega) (by omega))
      generalize writtenL ((G.take 8).drop 0) = X at *
      go_wp2_with (go_at_call 61; refine (HA.out _).mono ?_; rintro e w1 ⟨rfl, hb1⟩; obtain ⟨p1, rfl⟩ := grown_of hb1; clear hb1)
      go_ret
      exact ⟨ret_str HT.out, below_grown HB.out HB.out.size _⟩
end
end

section
section
open Go Go.RowKit
set_option maxRecDepth 20000
set_option linter.unusedSimpArgs false
set_option linter.unusedVariables false

theorem text4_le (a : GAddr) : (text4L a.b).length ≤ 1000 := by
  have := joinL_le 46 ((a.b.drop 12).map fun c => decT c.toNat) 3 (fun p hp => by
    simp only [List.mem_map] at hp
    obtain ⟨y, _, rfl⟩ := hp
    exact (decT_ok y).2.2.2)
  rw [List.length_map, List.length_drop, a.len] at this
  show (joinL 46 _).length ≤ _
  omega
theorem text6_le (a : GAddr) : (text6L a.b).length ≤ 39 := (text6_len _ (grpG a).len).2
theorem textH_len (h : GHost) : (textH h).length ≤ h.name.length + 1000 := by
  have h4 := text4_le h.addr
  have h6 := text6_le h.addr
  unfold textH
  split
  · omega
  · split
    · omega
    · split
      · simp; omega
      · simp
set_option maxHeartbeats 1000000 in
theorem text_any (h : GHost) (w : World) (htz : HasTz w) (hd : HasDec w) :
    Calls Tryz.prog 30 #[.agg (hostC h)] w fun e w' => e = .returned (.string ⟨(textH h).toArray⟩) ∧ Below w.heap.size w w' := by
  have H4 : Hid (∀ w, HasDec w → Calls Tryz.prog 52 #[.agg (addrC h.addr)] w fun e w' => e = .returned (.string ⟨(text4L h.addr.b).toArray⟩) ∧ Below w.heap.size w w') := fun w hd => text4_any h.addr w hd
  have H6 : Hid (∀ w, HasTz w → Calls Tryz.prog 53 #[.agg (addrC h.addr)] w fun e w' => e = .returned (.string ⟨(text6L h.addr.b).toArray⟩) ∧ Below w.heap.size w w') := fun w htz => text6_any h.addr w htz
  have h6 := text6_le h.addr
  by_cases k1 : h.kind = 1
  · have e : textH h = h.name := if_pos k1
    rw [e]
    have k1' : (h.kind == 1) = true := by simp [k1]
    go_enter Tryz.func30, Tryz.ntmps30
    go_wp2
    go_ret
    exact ⟨rfl, (by repeat (first | exact Below.refl _ _ | assumption | refine below_grown ?_ (by first | omega | (simp [go_sem]; done) | (simp [go_sem] <;> omega)) _ | refine Below.alloc ?_ (by first | omega | (simp [go_sem]; done) | (simp [go_sem] <;> omega)) _ | refine below_bytesW ?_ (by first | omega | (simp [go_sem]; done) | (simp [go_sem] <;> omega)) _ | refine Below.drew ?_ | refine below_drewN ?_ _))⟩
  · have k1' : (h.kind == 1) = false := by simp [k1]
    by_cases k2 : h.kind = 2
    · have e : textH h = text4L h.addr.b := by unfold textH; rw [if_neg k1, if_pos k2]
      rw [e]
      have k2' : (h.kind == 2) = true := by simp [k2]
      clear k1
      generalize text4L h.addr.b = T at *
      go_enter Tryz.func30, Tryz.ntmps30
      go_wp2_with (go_at_call 52; refine (H4.out _ (by repeat (first | exact hd | apply HasDec.grown | apply HasDec.alloc | apply HasDec.drew))).mono ?_; rintro e w1 ⟨rfl, hb1⟩; obtain ⟨p1, rfl⟩ := grown_of hb1; clear hb1)
      go_ret
      exact ⟨rfl, (by repeat (first | exact Below.refl _ _ | assumption | refine below_grown ?_ (by first | omega | (simp [go_sem]; done) | (simp [go_sem] <;> omega)) _ | refine Below.alloc ?_ (by first | omega | (simp [go_sem]; done) | (simp [go_sem] <;> omega)) _ | refine below_bytesW ?_ (by first | omega | (simp [go_sem]; done) | (simp [go_sem] <;> omega)) _ | refine Below.drew ?_ | refine below_drewN ?_ _))⟩
    · have k2' : (h.kind == 2) = false := by simp [k2]
      by_cases k3 : h.kind = 3
      · have e : textH h = [91] ++ text6L h.addr.b ++ [93] := by unfold textH; rw [if_neg k1, if_neg k2, if_pos k3]
        rw [e]
        have k3' : (h.kind == 3) = true := by simp [k3]
        clear k1 k2
        generalize text6L h.addr.b = T at *
        have hn1 : ¬ 9223372036854775807 < 1 + T.length := by omega
        have hn2 : ¬ 9223372036854775807 < T.length + 1 := by omega
        have hn3 : ¬ 9223372036854775807 < T.length + 1 + 1 := by omega
        have hn4 : ¬ 9223372036854775807 < 1 + T.length + 1 := by omega
        go_enter Tryz.func30, Tryz.ntmps30
        go_wp2_with (go_at_call 53; refine (H6.out _ (by repeat (first | exact htz | apply HasTz.grown | apply HasTz.alloc | apply HasTz.drew))).mono ?_; rintro e w1 ⟨rfl, hb1⟩; obtain ⟨p1, rfl⟩ := grown_of hb1; clear hb1)
        go_ret
        exact ⟨by first | rfl | exact ret_str (by simp), (by repeat (first | exact Below.refl _ _ | assumption | refine below_grown ?_ (by first | omega | (simp [go_sem]; done) | (simp [go_sem] <;> omega)) _ | refine Below.alloc ?_ (by first | omega | (simp [go_sem]; done) | (simp [go_sem] <;> omega)) _ | refine below_bytesW ?_ (by first | omega | (simp [go_sem]; done) | (simp [go_sem] <;> omega)) _ | refine Below.drew ?_ | refine below_drewN ?_ _))⟩
      · have e : textH h = [] := by unfold textH; rw [if_neg k1, if_neg k2, if_neg k3]
        rw [e]
        have k3' : (h.kind == 3) = false := by simp [k3]
        clear k1 k2 k3
        go_enter Tryz.func30, Tryz.ntmps30
        go_wp2
        go_ret
        exact ⟨rfl, (by repeat (first | exact Below.refl _ _ | assumption | refine below_grown ?_ (by first | omega | (simp [go_sem]; done) | (simp [go_sem] <;> omega)) _ | refine Below.alloc ?_ (by first | omega | (simp [go_sem]; done) | (simp [go_sem] <;> omega)) _ | refine below_bytesW ?_ (by first | omega | (simp [go_sem]; done) | (simp [go_sem] <;> omega)) _ | refine Below.drew ?_ | refine below_drewN ?_ _))⟩
theorem parseE_cases (s : List UInt8) : (parseOk s = true ∧ parseE s = 0) ∨ (parseOk s = false ∧ parseE s = 31) := by
  unfold parseE
  cases parseOk s
  · exact .inr ⟨rfl, rfl⟩
  · exact .inl ⟨rfl, rfl⟩
set_option maxHeartbeats 1000000 in
theorem right_any (h : GHost) (hn : h.name.length ≤ 4294960000) (m : Int) (w : World) (hm : HasMax m w) (htz : HasTz w) (hd : HasDec w) :
    Calls Tryz.prog 29 #[.agg (hostC h)] w fun e w' => e = .returned (.bool (rightB h)) ∧ Below w.heap.size w w' := by
  have HT : Hid (∀ w, HasTz w → HasDec w → Calls Tryz.prog 30 #[.agg (hostC h)] w fun e w' => e = .returned (.string ⟨(textH h).toArray⟩) ∧ Below w.heap.size w w') := fun w h1 h2 => text_any h w h1 h2
  have HP : Hid (∀ w, HasMax m w → Calls Tryz.prog 48 #[.string ⟨(textH h).toArray⟩] w fun e w' => e = .returned (.tuple #[.agg (hostC (parseH (textH h))), .int .i64 (parseE (textH h))]) ∧ Below w.heap.size w w') := fun w hm => parse_any _ (by have := textH_len h; omega) m w hm
  unfold rightB
  rcases parseE_cases (textH h) with ⟨h1, h2⟩ | ⟨h1, h2⟩
  all_goals
    rw [h1]
    rw [h2] at HP
    clear h1 h2
    generalize parseH (textH h) = g at *
    generalize textH h = T at *
    go_enter Tryz.func29, Tryz.ntmps29
    go_wp2_with (first
      | (go_at_call 30; refine (HT.out _ (by repeat (first | exact htz | apply HasTz.grown | apply HasTz.alloc | apply HasTz.drew)) (by repeat (first | exact hd | apply HasDec.grown | apply HasDec.alloc | apply HasDec.drew))).mono ?_; rintro e w1 ⟨rfl, hb1⟩; obtain ⟨p1, rfl⟩ := grown_of hb1; clear hb1)
      | (go_at_call 48; refine (HP.out _ (by repeat (first | exact hm | apply HasMax.grown | apply HasMax.alloc | apply HasMax.drew))).mono ?_; rintro e w1 ⟨rfl, hb1⟩; obtain ⟨p1, rfl⟩ := grown_of hb1; clear hb1))
    go_ret
    exact ⟨by first | rfl | exact ret_bool (by simp), (by repeat (first | exact Below.refl _ _ | assumption | refine below_grown ?_ (by first | omega | (simp [go_sem]; done) | (simp [go_sem] <;> omega)) _ | refine Below.alloc ?_ (by first | omega | (simp [go_sem]; done) | (simp [go_sem] <;> omega)) _ | refine below_bytesW ?_ (by first | omega | (simp [go_sem]; done) | (simp [go_sem] <;> omega)) _ | refine Below.drew ?_ | refine below_drewN ?_ _))⟩
theorem Gives.nil {α : Type} {c : Cod α} {w w' : World} (hb : Below w.heap.size w w') : Gives c [] w (.returned (.slice none 0 0)) w' := ⟨none, 0, rfl, Nat.le_refl _, hb, .inl rfl⟩
theorem labels_yes {h : GHost} (h1 : h.kind = 1) (h2 : rightB h = true) : labelsL h = splitL 46 h.name := if_pos (by unfold nameOk; rw [h2, h1]; rfl)
theorem labels_no1 {h : GHost} (h1 : h.kind ≠ 1) : labelsL h = [] := if_neg (by unfold nameOk; simp [h1])
theorem labels_no2 {h : GHost} (h2 : rightB h = false) : labelsL h = [] := if_neg (by unfold nameOk; simp [h2])
set_option maxHeartbeats 1000000 in
theorem labels_any (h : GHost) (hn : h.name.length ≤ 4294960000) (m : Int) (w : World) (hm : HasMax m w) (htz : HasTz w) (hd : HasDec w) :
    Calls Tryz.prog 26 #[.agg (hostC h)] w (Gives strCod (labelsL h) w) := by
  have HR : Hid (∀ w, HasMax m w → HasTz w → HasDec w → Calls Tryz.prog 29 #[.agg (hostC h)] w fun e w' => e = .returned (.bool (rightB h)) ∧ Below w.heap.size w w') := fun w h1 h2 h3 => right_any h hn m w h1 h2 h3
  by_cases k1 : h.kind = 1
  · have k1' : (h.kind != 1) = false := by simp [k1]
    cases h2 : rightB h
    · rw [labels_no2 h2]
      rw [h2] at HR
      clear h2 k1
      go_enter Tryz.func26, Tryz.ntmps26
      go_wp2_with (go_at_call 29; refine (HR.out _ (by repeat (first | exact hm | apply HasMax.grown | apply HasMax.alloc | apply HasMax.drew)) (by repeat (first | exact htz | apply HasTz.grown | apply HasTz.alloc | apply HasTz.drew)) (by repeat (first | exact hd | apply HasDec.grown | apply HasDec.alloc | apply HasDec.drew))).mono ?_; rintro e w1 ⟨rfl, hb1⟩; obtain ⟨p1, rfl⟩ := grown_of hb1; clear hb1)
      go_ret
      exact Gives.nil (by repeat (first | exact Below.refl _ _ | assumption | refine below_grown ?_ (by first | omega | (simp [go_sem]; done) | (simp [go_sem] <;> omega)) _ | refine Below.alloc ?_ (by first | omega | (simp [go_sem]; done) | (simp [go_sem] <;> omega)) _ | refine below_bytesW ?_ (by first | omega | (simp [go_sem]; done) | (simp [go_sem] <;> omega)) _ | refine Below.drew ?_ | refine below_drewN ?_ _))
    · rw [labels_yes k1 h2]
      rw [h2] at HR
      have HS : Hid (∀ w, HasMax m w → Calls Tryz.prog 50 #[.string ⟨h.name.toArray⟩, .int .u8 46] w (Gives strCod (splitL 46 h.name) w)) := fun w hm => split_gives h.name 46 (by omega) m w hm
      clear h2 k1
      generalize splitL 46 h.name = L at *
      go_enter Tryz.func26, Tryz.ntmps26
      go_wp2_with (first
        | (go_at_call 29; refine (HR.out _ (by repeat (first | exact hm | apply HasMax.grown | apply HasMax.alloc | apply HasMax.drew)) (by repeat (first | exact htz | apply HasTz.grown | apply HasTz.alloc | apply HasTz.drew)) (by repeat (first | exact hd | apply HasDec.grown | apply HasDec.alloc | apply HasDec.drew))).mono ?_; rintro e w1 ⟨rfl, hb1⟩; obtain ⟨p1, rfl⟩ := grown_of hb1; clear hb1)
        | (go_at_call 50; refine (HS.out _ (by repeat (first | exact hm | apply HasMax.grown | apply HasMax.alloc | apply HasMax.drew))).mono ?_; intro e w1 hg; have HG := Lib.hid (Gives.of_below (w := w) (by repeat (first | exact Below.refl _ _ | assumption | refine below_grown ?_ (by first | omega | (simp [go_sem]; done) | (simp [go_sem] <;> omega)) _ | refine Below.alloc ?_ (by first | omega | (simp [go_sem]; done) | (simp [go_sem] <;> omega)) _ | refine below_bytesW ?_ (by first | omega | (simp [go_sem]; done) | (simp [go_sem] <;> omega)) _ | refine Below.drew ?_ | refine below_drewN ?_ _)) hg); obtain ⟨a1, c1, rfl, hc1, hb1, hl1⟩ := hg; clear hc1 hb1 hl1))
      go_ret
      exact HG.out
  · rw [labels_no1 k1]
    have k1' : (h.kind != 1) = true := by simp [k1]
    clear k1
    go_enter Tryz.func26, Tryz.ntmps26
    go_wp2
    go_ret
    exact Gives.nil (by repeat (first | exact Below.refl _ _ | assumption | refine below_grown ?_ (by first | omega | (simp [go_sem]; done) | (simp [go_sem] <;> omega)) _ | refine Below.alloc ?_ (by first | omega | (simp [go_sem]; done) | (simp [go_sem] <;> omega)) _ | refine below_bytesW ?_ (by first | omega | (simp [go_sem]; done) | (simp [go_sem] <;> omega)) _ | refine Below.drew ?_ | refine below_drewN ?_ _))
end

section
open Go Go.RowKit
set_option maxRecDepth 20000
set_option linter.unusedSimpArgs false
set_option linter.unusedVariables false

theorem tailOk_cases (h : GHost) (n : Int) : (n < 1 ∧ tailOk h n = false) ∨ (1 ≤ n ∧ ((labelsL h).length : Int) < n ∧ tailOk h n = false) ∨ (1 ≤ n ∧ n ≤ (labelsL h).length ∧ tailOk h n = true) := by
  unfold tailOk
  by_cases h1 : 1 ≤ n
  · by_cases h2 : n ≤ (labelsL h).length
    · exact .inr (.inr ⟨h1, h2, by simp [h1, h2]⟩)
    · exact .inr (.inl ⟨h1, by omega, by simp [h2]⟩)
  · exact .inl ⟨by omega, by simp [h1]⟩
theorem labels_len {h : GHost} (hn : h.name.length ≤ 4294960000) : (labelsL h).length ≤ 254 := by
  by_cases hl : labelsL h = []
  · rw [hl]; simp
  · have hk := labels_ne hl
    rw [labels_ok hk]
    have := splitL_length_le 46 h.name
    have := (nameOk_facts hk).2.1
    omega
set_option maxHeartbeats 1000000 in
theorem tail_any (h : GHost) (n : Int) (hn : h.name.length ≤ 4294960000) (m : Int) (w : World) (hm : HasMax m w) (htz : HasTz w) (hd : HasDec w) :
    Calls Tryz.prog 31 #[.agg (hostC h), .int .i64 n] w fun e w' => e = .returned (.tuple #[.agg (hostC (tailH h n)), .bool (tailOk h n)]) ∧ Below w.heap.size w w' := by
  have HL : Hid (∀ w, HasMax m w → HasTz w → HasDec w → Calls Tryz.prog 26 #[.agg (hostC h)] w (Gives strCod (labelsL h) w)) := fun w h1 h2 h3 => labels_any h hn m w h1 h2 h3
  have hl254 := labels_len hn
  rcases tailOk_cases h n with ⟨h1, h2⟩ | ⟨h1, h3, h2⟩ | ⟨h1, h3, h2⟩
  · rw [tail_no h2, h2]
    generalize labelsL h = L at *
    go_enter Tryz.func31, Tryz.ntmps31
    go_wp2_with (go_at_call 26; refine (HL.out _ (by repeat (first | exact hm | apply HasMax.grown | apply HasMax.alloc | apply HasMax.drew)) (by repeat (first | exact htz | apply HasTz.grown | apply HasTz.alloc | apply HasTz.drew)) (by repeat (first | exact hd | apply HasDec.grown | apply HasDec.alloc | apply HasDec.drew))).mono ?_; intro e w1 hg; obtain ⟨a1, c1, rfl, hc1, hb1, hl1⟩ := hg; obtain ⟨p1, rfl⟩ := grown_of hb1; clear hb1)
    exact ret_cell_tmp (w.heap.size + 1) (hostC zeroH) (.bool false) rfl rfl rfl agg_host (by simp [go_sem]) (by simp [go_sem]) rfl ⟨rfl, below_setRow (by repeat (first | exact Below.refl _ _ | assumption | refine below_grown ?_ (by first | omega | (simp [go_sem]; done) | (simp [go_sem] <;> omega)) _ | refine Below.alloc ?_ (by first | omega | (simp [go_sem]; done) | (simp [go_sem] <;> omega)) _ | refine below_bytesW ?_ (by first | omega | (simp [go_sem]; done) | (simp [go_sem] <;> omega)) _ | refine Below.drew ?_ | refine below_drewN ?_ _)) (by omega) _⟩
  · rw [tail_no h2, h2]
    have h1' : ¬ n < 1 := by omega
    generalize labelsL h = L at *
    go_enter Tryz.func31, Tryz.ntmps31
    go_wp2_with (go_at_call 26; refine (HL.out _ (by repeat (first | exact hm | apply HasMax.grown | apply HasMax.alloc | apply HasMax.drew)) (by repeat (first | exact htz | apply HasTz.grown | apply HasTz.alloc | apply HasTz.drew)) (by repeat (first | exact hd | apply HasDec.grown | apply HasDec.alloc | apply HasDec.drew))).mono ?_; intro e w1 hg; obtain ⟨a1, c1, rfl, hc1, hb1, hl1⟩ := hg; obtain ⟨p1, rfl⟩ := grown_of hb1; clear hb1)
    exact ret_cell_tmp (w.heap.size + 1) (hostC zeroH) (.bool false) rfl rfl rfl agg_host (by simp [go_sem]) (by simp [go_sem]) rfl ⟨rfl, below_setRow (by repeat (first | exact Below.refl _ _ | assumption | refine below_grown ?_ (by first | omega | (simp [go_sem]; done) | (simp [go_sem] <;> omega)) _ | refine Below.alloc ?_ (by first | omega | (simp [go_sem]; done) | (simp [go_sem] <;> omega)) _ | refine below_bytesW ?_ (by first | omega | (simp [go_sem]; done) | (simp [go_sem] <;> omega)) _ | refine Below.drew ?_ | refine below_drewN ?_ _)) (by omega) _⟩
  · obtain ⟨_, _, e3, e4, _, _⟩ := tail_facts h2
    rw [e3, h2, ← nameV_eq e4]
    have h1' : ¬ n < 1 := by omega
    have h3' : ¬ ((labelsL h).length : Int) < n := by omega
    obtain ⟨k, rfl⟩ : ∃ k : Nat, n = k := ⟨n.toNat, by omega⟩
    have hTN : Hid (joinL 46 ((labelsL h).drop ((labelsL h).length - k)) = tailN h k) := show _ = _ by unfold tailN; simp
    have hne : labelsL h ≠ [] := by intro e; rw [e] at h3; simp at h3; omega
    clear e3 h2
    generalize tailN h k = T at *
    generalize labelsL h = L at *
    have hwr : IntKind.i64.wrap ((L.length : Int) - k) = (L.length : Int) - k := IntWalk.i64_in _ (by omega)
    have HJ : Hid (∀ w a cap, k ≤ cap → ListIn strCod w a (L.drop (L.length - k)) 0 → Calls Tryz.prog 54 #[.slice a (L.length - (L.length - k)) cap, .string ⟨[46].toArray⟩] w fun e w' => e = .returned (.string ⟨T.toArray⟩) ∧ Below w.heap.size w w') := fun w a cap hc hin => by
      have hlen : (L.drop (L.length - k)).length = L.length - (L.length - k) := List.length_drop
      have := join_any (L.drop (L.length - k)) 46 a cap 0 (by omega) (by omega) (by rw [hTN.out]; omega) w hin
      rwa [hTN.out, hlen] at this
    go_enter Tryz.func31, Tryz.ntmps31
    go_wp2_with (first
      | (go_at_call 26; refine (HL.out _ (by repeat (first | exact hm | apply HasMax.grown | apply HasMax.alloc | apply HasMax.drew)) (by repeat (first | exact htz | apply HasTz.grown | apply HasTz.alloc | apply HasTz.drew)) (by repeat (first | exact hd | apply HasDec.grown | apply HasDec.alloc | apply HasDec.drew))).mono ?_; intro e w1 hg; obtain ⟨b, o, cap, rfl, hcap, hb1, hlo, hhi, hat⟩ := hg.some hne; have HBC := Lib.hid (bel_up (w := w) (by repeat (first | exact Below.refl _ _ | assumption | refine below_grown ?_ (by first | omega | (simp [go_sem]; done) | (simp [go_sem] <;> omega)) _ | refine Below.alloc ?_ (by first | omega | (simp [go_sem]; done) | (simp [go_sem] <;> omega)) _ | refine below_bytesW ?_ (by first | omega | (simp [go_sem]; done) | (simp [go_sem] <;> omega)) _ | refine Below.drew ?_ | refine below_drewN ?_ _)) hb1); have HVR := Lib.hid (Var.below (Var.new (w.alloc _) _ _ rfl (by simp [go_sem]) : Var ((w.alloc _).alloc _) (w.heap.size + 1) (hostL zeroH)) hb1); have hv := HVR.out.has (n := 18) rfl; have hv2 := (fun p => (HVR.out.grown p).has (n := 18) rfl); have hdr := Lib.hid (hat.drop (L.length - k) (by omega)); rw [show o + (L.length - k) * strCod.sz = o + (L.length - k) by show o + (L.length - k) * 1 = _; omega] at hdr; clear hg hb1 hat)
      | (go_at_call 54; refine (HJ.out _ _ _ (by omega) (.inr ⟨b, o + (L.length - k), rfl, Nat.zero_le _, hhi, hdr.out⟩)).mono ?_; rintro e w1 ⟨rfl, hb1⟩; obtain ⟨p1, rfl⟩ := grown_of hb1; clear hb1))
    exact ret_cell_tmp (w.heap.size + 1) (nameV T) (.bool true) rfl rfl rfl agg_host (by simp [go_sem, hv2]) (by simp [go_sem, hv2]) rfl ⟨rfl, below_setRow (below_grown HBC.out HBC.out.size _) (by omega) _⟩
theorem gives_len {α : Type} {c : Cod α} {xs : List α} {w w' : World} {e : Ending} (h : Gives c xs w e w') : ∃ (a : Option Addr) (cap : Nat), e = .returned (.slice a xs.length cap) ∧ Below w.heap.size w w' := by
  obtain ⟨a, cap, he, _, hb, _⟩ := h
  exact ⟨a, cap, he, hb⟩
end

section
open Go Go.RowKit
set_option maxRecDepth 20000
set_option linter.unusedSimpArgs false
set_option linter.unusedVariables false

def exA : List UInt8 := [65, 46, 69, 120, 97, 109, 112, 108, 101, 46, 99, 111, 109]
def exL : List UInt8 := [97, 46, 101, 120, 97, 109, 112, 108, 101, 46, 99, 111, 109]
def exD : List UInt8 := [101, 120, 97, 109, 112, 108, 101, 46, 99, 111, 109]
def exN : List UInt8 := [49, 46, 50, 46, 51]
theorem ex_six : six exA = false ∧ six exD = false ∧ six exN = false ∧ lastD exA = false ∧ lastD exD = false ∧ lastD exN = true ∧ v4Ok exN = false ∧ lowerL exA = exL ∧ nameB exA = true ∧ nameB exD = true ∧ lowerL exD = exD := by decide +kernel
theorem ex_labs : (splitL 46 exL).all labOk = true ∧ (splitL 46 exD).all labOk = true ∧ digitsB ((splitL 46 exL).getLastD []) = false ∧ digitsB ((splitL 46 exD).getLastD []) = false ∧ (splitL 46 exL).length = 3 ∧ (splitL 46 exD).length = 2 ∧ joinL 46 ((splitL 46 exL).drop 1) = exD := by decide +kernel
theorem exH : parseH exA = nameH exL ∧ parseE exA = 0 ∧ parseH exD = nameH exD ∧ parseE exD = 0 ∧ parseE exN = 31 ∧ parseH exN = zeroH ∧ underB (nameH exL) (nameH exD) = true := by
  obtain ⟨a1, a2, a3, a4, a5, a6, a7, a8, a9, a10, a11⟩ := ex_six
  obtain ⟨b1, b2, b3, b4, b5, b6, b7⟩ := ex_labs
  obtain ⟨c1, c2⟩ := parse_name a1 a4 a9
  obtain ⟨d1, d2⟩ := parse_name a2 a5 a10
  obtain ⟨e1, e2⟩ := parse_four a3 a6
  rw [a8] at c1
  rw [a11] at d1
  rw [a7] at e1 e2
  refine ⟨c1, c2, d1, d2, e2, e1, ?_⟩
  obtain ⟨_, hL⟩ := name_right (n := exL) (by decide) b1 b3
  obtain ⟨_, hD⟩ := name_right (n := exD) (by decide) b2 b4
  unfold underB tailH tailOk tailN
  rw [hL, hD, b5, b6]
  rw [if_neg (by omega), if_pos (by decide)]
  show hostEq (nameH (joinL 46 ((splitL 46 exL).drop 1))) _ = true
  rw [b7]
  exact (hostEq_iff _ _).2 rfl
end

section
open Go Go.RowKit
set_option maxRecDepth 20000
set_option linter.unusedSimpArgs false
set_option linter.unusedVariables false

theorem all_take_lab (l : List UInt8) (k : Nat) (h : k < l.length) : (l.take (k + 1)).all labC = ((l.take k).all labC && labC (l[k]'h)) := by
  rw [List.take_succ_eq_append_getElem h, List.all_append]; simp
theorem lab_bad {x : List UInt8} (k : Nat) (h : k < x.length) (hc : labC (x[k]'h) = false) : labOk x = false := by
  have : x.all labC = false := List.all_eq_false.2 ⟨_, List.getElem_mem h, by rw [hc]; decide⟩
  rw [labOk, this]; simp
theorem lab_good {x : List UInt8} (h : x.all labC = true) : labOk x = (decide ((1 : Int) ≤ x.length) && decide ((x.length : Int) ≤ 63)) := by
  rw [labOk, h]
  cases x with
  | nil => rfl
  | cons c t =>
    have : decide ((1 : Int) ≤ ((c :: t).length : Int)) = true := decide_eq_true (by simp; omega)
    rw [this]
    by_cases hl : (c :: t).length ≤ 63
    · rw [decide_eq_true hl, decide_eq_true (by omega : (((c :: t).length : Nat) : Int) ≤ 63)]; rfl
    · rw [decide_eq_false hl, decide_eq_false (by omega : ¬ (((c :: t).length : Nat) : Int) ≤ 63)]; rfl
set_option maxHeartbeats 1000000 in
theorem refLabel_any (x : List UInt8) (hx : x.length ≤ maxLen) (w : World) :
    Calls Tryz.prog 41 #[.string ⟨x.toArray⟩] w fun e w' => e = .returned (.bool (labOk x)) ∧ w = w' := by
  unfold maxLen at hx
  have HBAD : Hid (∀ k (h : k < x.length), labC (x[k]'h) = false → labOk x = false) := fun k h hc => lab_bad k h hc
  have HALL : Hid ((x.take x.length).all labC = true → labOk x = (decide ((1 : Int) ≤ x.length) && decide ((x.length : Int) ≤ 63))) := fun h => lab_good (by rwa [List.take_length] at h)
  generalize labOk x = ok at *
  go_enter Tryz.func41, Tryz.ntmps41
  go_wp2
  go_loop [3, 4] (fun i _ => ∃ k : Nat, k ≤ x.length ∧ i = .int .i64 k ∧ Hid ((x.take k).all labC = true)) (fun i _ => x.length - (intOf i).toNat)
  case atStart => exact ⟨0, Nat.zero_le _, rfl, rfl⟩
  case round =>
    obtain ⟨k, hk, rfl, hinv⟩ := hrel
    by_cases hlt : k < x.length
    · have HS := Lib.hid (all_take_lab x k hlt)
      have HB := Lib.hid (HBAD.out k hlt)
      obtain ⟨c, hcc⟩ : ∃ c, ∀ h, x[k]'h = c := ⟨x[k]'hlt, fun _ => rfl⟩
      rw [hcc] at HS HB
      rcases labC_cases c with ⟨h1, h2, hd⟩ | ⟨h1, h2, hd⟩ | ⟨h1, h2, hd⟩ | ⟨h1, h2, h3, hd⟩ | ⟨h1, h2, h3, hd⟩ | ⟨h1, h2, hd⟩ | ⟨h1, hd⟩
      · obtain rfl := HB.out hd
        have n1 : ((c.toNat : Int) != 45) = true := by rw [bne, h2]; rfl
        have n2 : ((c.toNat : Int) != 95) = true := by rw [bne_iff_ne]; omega
        have t1 : (c.toNat : Int) < 97 := by omega
        go_wp2
        go_ret
        exact ⟨rfl, rfl⟩
      · have n1 : ((c.toNat : Int) != 45) = false := by rw [bne, h2]; rfl
        have t1 : (c.toNat : Int) < 97 := by omega
        go_wp2
        go_round
        case rel => exact ⟨k + 1, by omega, by go_num, show _ = true by rw [HS.out, hinv.out, hd]; rfl⟩
        case measure => simp [intOf]; omega
      · have t1 : (c.toNat : Int) < 97 := by omega
        have t2 : ¬ (c.toNat : Int) < 48 := by omega
        have t3 : ¬ (57 : Int) < (c.toNat : Int) := by omega
        go_wp2
        go_round
        case rel => exact ⟨k + 1, by omega, by go_num, show _ = true by rw [HS.out, hinv.out, hd]; rfl⟩
        case measure => simp [intOf]; omega
      · obtain rfl := HB.out hd
        have n1 : ((c.toNat : Int) != 45) = true := by rw [bne_iff_ne]; omega
        have n2 : ((c.toNat : Int) != 95) = true := by rw [bne, h3]; rfl
        have t2 : ¬ (c.toNat : Int) < 48 := by omega
        go_wp2
        go_ret
        exact ⟨rfl, rfl⟩
      · have n1 : ((c.toNat : Int) != 45) = true := by rw [bne_iff_ne]; omega
        have n2 : ((c.toNat : Int) != 95) = false := by rw [bne, h3]; rfl
        have t2 : ¬ (c.toNat : Int) < 48 := by omega
        go_wp2
        go_round
        case rel => exact ⟨k + 1, by omega, by go_num, show _ = true by rw [HS.out, hinv.out, hd]; rfl⟩
        case measure => simp [intOf]; omega
      · have t1 : ¬ (c.toNat : Int) < 97 := by omega
        have t2 : ¬ (122 : Int) < (c.toNat : Int) := by omega
        go_wp2
        go_round
        case rel => exact ⟨k + 1, by omega, by go_num, show _ = true by rw [HS.out, hinv.out, hd]; rfl⟩
        case measure => simp [intOf]; omega
      · obtain rfl := HB.out hd
        have n1 : ((c.toNat : Int) != 45) = true := by rw [bne_iff_ne]; omega
        have n2 : ((c.toNat : Int) != 95) = true := by rw [bne_iff_ne]; omega
        have t1 : ¬ (c.toNat : Int) < 97 := by omega
        have t2 : ¬ (c.toNat : Int) < 48 := by omega
        have t3 : (57 : Int) < (c.toNat : Int) := by omega
        go_wp2
        go_ret
        exact ⟨rfl, rfl⟩
    · obtain rfl : k = x.length := by omega
      obtain rfl := HALL.out hinv.out
      clear HALL hinv
      by_cases h1 : (1 : Int) ≤ x.length
      all_goals
        go_wp2
        go_ret
        exact ⟨by first | rfl | exact ret_bool (by simp; try omega), rfl⟩

/-! ### Parse -/
theorem six_nil : six [] = false := rfl
theorem six_cons (c : UInt8) (t : List UInt8) : six (c :: t) = (c == 91) := by
  show ((91 : UInt8) == c && List.isPrefixOf [] t) = _
  rw [Bool.beq_comm]
  show ((c == 91) && true) = _
  rw [Bool.and_true]
theorem six_at {l : List UInt8} (h : 0 < l.length) : six l = (l[0]'h == 91) := by
  cases l with
  | nil => cases h
  | cons c t => exact six_cons c t
theorem in1_six {l : List UInt8} (h : six l = true) : in1 l = l.drop 1 := by
  unfold in1 Lib.trimPrefix
  unfold six at h
  rw [if_pos h]; rfl
theorem suffix_one (x : List UInt8) (c : UInt8) : Lib.hasSuffix x [c] = (x.getLast? == some c) := by
  unfold Lib.hasSuffix
  rw [Bool.eq_iff_iff, List.isSuffixOf_iff_suffix, beq_iff_eq]
  constructor
  · rintro ⟨t, rfl⟩
    simp
  · intro h
    obtain ⟨t, rfl⟩ := List.getLast?_eq_some_iff.1 h
    exact ⟨t, rfl⟩
theorem closed_at {l : List UInt8} (h : six l = true) (h0 : l.length - 1 < l.length) : closedB l = (l[l.length - 1]'h0 == 93) := by
  unfold closedB
  rw [in1_six h, suffix_one]
  cases l with
  | nil => cases h
  | cons c t =>
    rw [six_cons] at h
    obtain rfl : c = 91 := by simpa using h
    cases t with
    | nil => rfl
    | cons d t =>
      have e : ((91 : UInt8) :: d :: t).drop 1 = d :: t := rfl
      rw [e, List.getLast?_eq_getElem?, List.getElem?_eq_getElem (by simp)]
      simp
theorem in6_at {l : List UInt8} (h : six l = true) (hc : closedB l = true) : in6 l = l.tail.take (l.length - 1 - 1) := by
  unfold in6 Lib.trimSuffix
  unfold closedB at hc
  rw [if_pos hc, in1_six h, List.drop_one, List.length_tail]
  rfl
theorem closed_len {l : List UInt8} (h : six l = true) (hc : closedB l = true) : 2 ≤ l.length := by
  cases l with
  | nil => cases h
  | cons c t =>
    cases t with
    | nil =>
      rw [six_cons] at h
      obtain rfl : c = 91 := by simpa using h
      exact absurd hc (by decide)
    | cons d t => simp
theorem nameB_bad {l : List UInt8} (p : List UInt8) (hp : p ∈ labsL l) (h : labOk p = false) : nameB l = false := by
  unfold nameB
  rw [Bool.and_eq_false_iff]
  exact .inr (List.all_eq_false.2 ⟨p, hp, by rw [h]; decide⟩)
theorem nameB_long {l : List UInt8} (h : 253 < l.length) : nameB l = false := by
  unfold nameB
  rw [decide_eq_false (by omega)]; rfl
theorem nameB_good {l : List UInt8} (h : l.length ≤ 253) (ha : (labsL l).all labOk = true) : nameB l = true := by
  unfold nameB
  rw [decide_eq_true h, ha]; rfl
theorem all_take_labs (L : List (List UInt8)) (k : Nat) (h : k < L.length) : (L.take (k + 1)).all labOk = ((L.take k).all labOk && labOk (L[k]'h)) := by
  rw [List.take_succ_eq_append_getElem h, List.all_append]; simp
theorem addrOk_no (k : Int) (a : GAddr) : addrOk k a false = zeroH := rfl
set_option maxRecDepth 100000 in
set_option maxHeartbeats 2000000 in
theorem refParse_any (l : List UInt8) (hl : l.length ≤ 2000000000) (w : World) :
    Calls Tryz.prog 18 #[.string ⟨l.toArray⟩] w fun e w' => e = .returned (.tuple #[.agg (hostC (parseH l)), .int .i64 (parseE l)]) ∧ Below w.heap.size w w' := by
  cases h6 : six l
  · have hfirst : l.length = 0 ∨ (0 < l.length ∧ ∀ h, (((l[0]'h).toNat : Int) == 91) = false) := by
      rcases Nat.eq_zero_or_pos l.length with h | h
      · exact .inl h
      · refine .inr ⟨h, fun h => ?_⟩
        rw [u8_lit _ 91 91 rfl, ← six_at h, h6]
    have HLW : Hid (∀ w, Calls Tryz.prog 38 #[.string ⟨l.toArray⟩] w fun e w' => e = .returned (.string ⟨(lowerL l).toArray⟩) ∧ Below w.heap.size w w') := fun w => refLower_any l (by unfold maxLen; omega) w
    have HSP : Hid (∀ w, Calls Tryz.prog 28 #[.string ⟨(lowerL l).toArray⟩, .int .u8 46] w (Gives strCod (labsL l) w)) := fun w => refSplit_any (lowerL l) 46 (by rw [lowerL_len]; omega) w
    have HDG : Hid (∀ w, Calls Tryz.prog 39 #[.string ⟨(lastL l).toArray⟩] w fun e w' => e = .returned (.bool (lastD l)) ∧ w = w') := fun w => refDigits_any (lastL l) (by
      have hlt : (labsL l).length - 1 < (labsL l).length := by have := List.length_pos_iff.2 (labs_ne l); omega
      have := labs_piece l _ (List.getElem_mem hlt)
      rw [lastL_eq l hlt] at this
      unfold maxLen; omega) w
    have HLE := Lib.hid (lastL_eq l)
    have HN := Lib.hid (labs_ne l)
    have hpos := List.length_pos_iff.2 (labs_ne l)
    have hLl := labs_len l
    have HPC := Lib.hid (labs_piece l)
    have hll := lowerL_len l
    cases h4 : lastD l
    · rw [h4] at HDG
      have HBAD : Hid (∀ p ∈ labsL l, labOk p = false → parseH l = zeroH ∧ parseE l = 31) := fun p hp h => parse_none h6 h4 (nameB_bad p hp h)
      have HLONG : Hid (253 < l.length → parseH l = zeroH ∧ parseE l = 31) := fun h => parse_none h6 h4 (nameB_long h)
      have HGOOD : Hid (l.length ≤ 253 → (labsL l).all labOk = true → hostC (parseH l) = nameV (lowerL l) ∧ parseE l = 0) := fun h ha => by
        obtain ⟨e1, e2⟩ := parse_name h6 h4 (nameB_good h ha)
        rw [e1, e2]
        exact ⟨(nameV_eq (by rw [hll]; exact h)).symm, rfl⟩
      clear h6 h4
      generalize lowerL l = lw at *
      generalize lastL l = la at *
      generalize labsL l = L at *
      generalize parseH l = H at *
      generalize parseE l = E at *
      rcases hfirst with h0 | ⟨h0, h0'⟩
      all_goals
        go_enter Tryz.func18, Tryz.ntmps18
        go_wp2_with (first
          | (go_at_call 38; refine (HLW.out _).mono ?_; rintro e w1 ⟨rfl, hb1⟩; obtain ⟨p1, rfl⟩ := grown_of hb1; clear hb1)
          | (go_at_call 28; refine (HSP.out _).mono ?_; intro e w1 hg; obtain ⟨b, o, cap, rfl, hcap, hb1, hlo, hhi, hat⟩ := hg.some HN.out; have HBC := Lib.hid (bel_up (w := w) (by repeat (first | exact Below.refl _ _ | assumption | refine below_grown ?_ (by first | omega | (simp [go_sem]; done) | (simp [go_sem] <;> omega)) _ | refine Below.alloc ?_ (by first | omega | (simp [go_sem]; done) | (simp [go_sem] <;> omega)) _ | refine below_bytesW ?_ (by first | omega | (simp [go_sem]; done) | (simp [go_sem] <;> omega)) _ | refine Below.drew ?_ | refine below_drewN ?_ _)) hb1); have hcell := strAt hat _ (by omega : L.length - 1 < L.length); rw [HLE.out] at hcell; have HVR := Lib.hid (Var.below (Var.grown (Var.new w _ _ rfl rfl : Var (w.alloc _) w.heap.size (hostL zeroH)) _) hb1); have HAT := Lib.hid hat; clear hg hb1 hat)
          | (go_at_call 39; refine (HDG.out _).mono ?_; intro e w' h; obtain ⟨rfl, h2⟩ := h; subst w'))
        go_loop [64, 11] (fun i _ => ∃ k : Nat, k ≤ L.length ∧ i = .int .i64 k ∧ Hid ((L.take k).all labOk = true)) (fun i _ => L.length - (intOf i).toNat)
        case atStart => exact ⟨0, Nat.zero_le _, rfl, rfl⟩
        case round =>
          obtain ⟨k, hk, rfl, hinv⟩ := hrel
          have hv := HVR.out.has (n := 18) rfl
          by_cases hlt : k < L.length
          · have hcl := strAt HAT.out k hlt
            have HS := Lib.hid (all_take_labs L k hlt)
            have HB := Lib.hid (HBAD.out _ (List.getElem_mem hlt))
            have HR := Lib.hid (refLabel_any (L[k]'hlt) (by have := HPC.out _ (List.getElem_mem hlt); unfold maxLen; omega))
            generalize L[k]'hlt = x at *
            cases hc : labOk x
            · obtain ⟨rfl, rfl⟩ := HB.out hc
              rw [hc] at HR
              go_wp2_with (go_at_call 41; refine (HR.out _).mono ?_; intro e w' h; obtain ⟨rfl, h2⟩ := h; subst w')
              exact ret_cell_tmp w.heap.size (hostC zeroH) (.int .i64 31) rfl rfl rfl agg_host (by simp [go_sem, hv]) (by simp [go_sem, hv]) rfl ⟨rfl, below_setRow HBC.out (Nat.le_refl _) _⟩
            · rw [hc] at HR
              go_wp2_with (go_at_call 41; refine (HR.out _).mono ?_; intro e w' h; obtain ⟨rfl, h2⟩ := h; subst w')
              go_round
              case rel => exact ⟨k + 1, by omega, by go_num, show _ = true by rw [HS.out, hinv.out, hc]; rfl⟩
              case measure => simp [intOf]; omega
          · obtain rfl : k = L.length := by omega
            have hall := hinv.out
            rw [List.take_length] at hall
            by_cases hlong : (253 : Int) < l.length
            · first
                | (exfalso; omega)
                | (obtain ⟨rfl, rfl⟩ := HLONG.out (by omega)
                   clear hall hinv
                   go_wp2
                   exact ret_cell_tmp w.heap.size (hostC zeroH) (.int .i64 31) rfl rfl rfl agg_host (by simp [go_sem, hv]) (by simp [go_sem, hv]) rfl ⟨rfl, below_setRow HBC.out (Nat.le_refl _) _⟩)
            · obtain ⟨hH, rfl⟩ := HGOOD.out (by omega) hall
              have HH := Lib.hid hH
              clear hall hinv hH
              go_wp2
              exact ret_cell_tmp w.heap.size (nameV lw) (.int .i64 0) rfl rfl rfl agg_host (by simp [go_sem, hv]) (by simp [go_sem, hv]) rfl ⟨by rw [HH.out], below_setRow HBC.out (Nat.le_refl _) _⟩
    · rw [h4] at HDG
      obtain ⟨e1, e2⟩ := parse_four h6 h4
      rw [e1, e2]
      have HV : Hid (∀ w, Calls Tryz.prog 40 #[.string ⟨l.toArray⟩] w fun e w' => e = .returned (.tuple #[.agg (addrC (v4A l)), .bool (v4Ok l)]) ∧ Below w.heap.size w w') := fun w => refV4_any l (by omega) w
      clear e1 e2 h6 h4
      generalize lowerL l = lw at *
      generalize lastL l = la at *
      generalize labsL l = L at *
      generalize v4A l = A at *
      generalize v4Ok l = ok at *
      rcases hfirst with h0 | ⟨h0, h0'⟩
      all_goals
        cases ok
        all_goals
          go_enter Tryz.func18, Tryz.ntmps18
          go_wp2_with (first
            | (go_at_call 38; refine (HLW.out _).mono ?_; rintro e w1 ⟨rfl, hb1⟩; obtain ⟨p1, rfl⟩ := grown_of hb1; clear hb1)
            | (go_at_call 28; refine (HSP.out _).mono ?_; intro e w1 hg; obtain ⟨b, o, cap, rfl, hcap, hb1, hlo, hhi, hat⟩ := hg.some HN.out; have HBC := Lib.hid (bel_up (w := w) (by repeat (first | exact Below.refl _ _ | assumption | refine below_grown ?_ (by first | omega | (simp [go_sem]; done) | (simp [go_sem] <;> omega)) _ | refine Below.alloc ?_ (by first | omega | (simp [go_sem]; done) | (simp [go_sem] <;> omega)) _ | refine below_bytesW ?_ (by first | omega | (simp [go_sem]; done) | (simp [go_sem] <;> omega)) _ | refine Below.drew ?_ | refine below_drewN ?_ _)) hb1); have hcell := strAt hat _ (by omega : L.length - 1 < L.length); rw [HLE.out] at hcell; have HVR := Lib.hid (Var.below (Var.grown (Var.new w _ _ rfl rfl : Var (w.alloc _) w.heap.size (hostL zeroH)) _) hb1); have hv := (fun p o => ((HVR.out.grown p).alloc o).has (n := 18) rfl); have HAT := Lib.hid hat; clear hg hb1 hat)
            | (go_at_call 39; refine (HDG.out _).mono ?_; intro e w' h; obtain ⟨rfl, h2⟩ := h; subst w')
            | (go_at_call 40; refine (HV.out _).mono ?_; rintro e w1 ⟨rfl, hb1⟩; obtain ⟨p1, rfl⟩ := grown_of hb1; clear hb1))
        · exact ret_cell_tmp w.heap.size (hostC zeroH) (.int .i64 31) rfl rfl rfl agg_host (by simp [go_sem, hv]) (by simp [go_sem, hv]) rfl ⟨rfl, below_setRow (by repeat (first | exact HBC.out | refine below_grown ?_ (by have hbcs := HBC.out.size; first | omega | (simp [go_sem]; omega)) _ | refine Below.alloc ?_ (by have hbcs := HBC.out.size; first | omega | (simp [go_sem]; omega)) _)) (Nat.le_refl _) _⟩
        · exact ret_cell_tmp w.heap.size (hostC (v4H A)) (.int .i64 0) rfl rfl rfl agg_host (by simp [go_sem, hv]) (by simp [go_sem, hv]) rfl ⟨rfl, below_setRow (by repeat (first | exact HBC.out | refine below_grown ?_ (by have hbcs := HBC.out.size; first | omega | (simp [go_sem]; omega)) _ | refine Below.alloc ?_ (by have hbcs := HBC.out.size; first | omega | (simp [go_sem]; omega)) _)) (Nat.le_refl _) _⟩
  · have h0 : 0 < l.length := by
      cases l with
      | nil => cases h6
      | cons c t => simp
    have h0' : ∀ h, (((l[0]'h).toNat : Int) == 91) = true := fun h => by rw [u8_lit _ 91 91 rfl, ← six_at h, h6]
    obtain ⟨e1, e2⟩ := parse_six h6
    rw [e1, e2]
    have hcl := closed_at h6 (by omega)
    have hcc : ∀ h, (((l[l.length - 1]'h).toNat : Int) != 93) = !closedB l := fun h => by rw [hcl, u8_lit_ne _ 93 93 rfl]; rfl
    cases hc : closedB l
    · rw [hc] at hcc
      rw [Bool.and_false]
      clear hcl e1 e2 hc
      go_enter Tryz.func18, Tryz.ntmps18
      go_wp2
      exact ret_cell_tmp w.heap.size (hostC zeroH) (.int .i64 31) rfl rfl rfl agg_host (by simp [go_sem]) (by simp [go_sem]) rfl ⟨rfl, (by repeat (first | exact Below.refl _ _ | assumption | refine below_grown ?_ (by first | omega | (simp [go_sem]; done) | (simp [go_sem] <;> omega)) _ | refine Below.alloc ?_ (by first | omega | (simp [go_sem]; done) | (simp [go_sem] <;> omega)) _ | refine below_bytesW ?_ (by first | omega | (simp [go_sem]; done) | (simp [go_sem] <;> omega)) _ | refine Below.drew ?_ | refine below_drewN ?_ _))⟩
    · rw [hc] at hcc
      rw [Bool.and_true]
      have h2 := closed_len h6 hc
      have HI := Lib.hid (in6_at h6 hc)
      have HV : Hid (∀ w, Calls Tryz.prog 37 #[.string ⟨(in6 l).toArray⟩] w fun e w' => e = .returned (.tuple #[.agg (addrC (v6A (in6 l))), .bool (v6Ok (in6 l))]) ∧ Below w.heap.size w w') := fun w => refV6_any (in6 l) (by have := in6_length l; omega) w
      clear hcl e1 e2 hc
      generalize v6A (in6 l) = A at *
      generalize v6Ok (in6 l) = ok at *
      rw [HI.out] at HV
      cases ok
      all_goals
        go_enter Tryz.func18, Tryz.ntmps18
        go_wp2_with (go_at_call 37; refine (HV.out _).mono ?_; rintro e w1 ⟨rfl, hb1⟩; obtain ⟨p1, rfl⟩ := grown_of hb1; clear hb1)
      · exact ret_cell_tmp w.heap.size (hostC zeroH) (.int .i64 31) rfl rfl rfl agg_host (by simp [go_sem]) (by simp [go_sem]) rfl ⟨rfl, below_setRow (by repeat (first | exact Below.refl _ _ | assumption | refine below_grown ?_ (by first | omega | (simp [go_sem]; done) | (simp [go_sem] <;> omega)) _ | refine Below.alloc ?_ (by first | omega | (simp [go_sem]; done) | (simp [go_sem] <;> omega)) _ | refine below_bytesW ?_ (by first | omega | (simp [go_sem]; done) | (simp [go_sem] <;> omega)) _ | refine Below.drew ?_ | refine below_drewN ?_ _)) (Nat.le_refl _) _⟩
      · exact ret_cell_tmp w.heap.size (hostC (v6H A)) (.int .i64 0) rfl rfl rfl agg_host (by simp [go_sem]) (by simp [go_sem]) rfl ⟨rfl, below_setRow (by repeat (first | exact Below.refl _ _ | assumption | refine below_grown ?_ (by first | omega | (simp [go_sem]; done) | (simp [go_sem] <;> omega)) _ | refine Below.alloc ?_ (by first | omega | (simp [go_sem]; done) | (simp [go_sem] <;> omega)) _ | refine below_bytesW ?_ (by first | omega | (simp [go_sem]; done) | (simp [go_sem] <;> omega)) _ | refine Below.drew ?_ | refine below_drewN ?_ _)) (Nat.le_refl _) _⟩
/-! ### Text, Right, Labels, Under -/
set_option maxHeartbeats 1000000 in
theorem refText_any (h : GHost) (w : World) :
    Calls Tryz.prog 19 #[.agg (hostC h)] w fun e w' => e = .returned (.string ⟨(textH h).toArray⟩) ∧ Below w.heap.size w w' := by
  have H4 : Hid (∀ w, Calls Tryz.prog 42 #[.agg (addrC h.addr)] w fun e w' => e = .returned (.string ⟨(text4L h.addr.b).toArray⟩) ∧ Below w.heap.size w w') := fun w => refText4_any h.addr w
  have H6 : Hid (∀ w, Calls Tryz.prog 43 #[.agg (addrC h.addr)] w fun e w' => e = .returned (.string ⟨(text6L h.addr.b).toArray⟩) ∧ Below w.heap.size w w') := fun w => refText6_any h.addr w
  have h6 := text6_le h.addr
  by_cases k1 : h.kind = 1
  · have e : textH h = h.name := if_pos k1
    rw [e]
    have k1' : (h.kind == 1) = true := by simp [k1]
    go_enter Tryz.func19, Tryz.ntmps19
    go_wp2
    go_ret
    exact ⟨rfl, (by repeat (first | exact Below.refl _ _ | assumption | refine below_grown ?_ (by first | omega | (simp [go_sem]; done) | (simp [go_sem] <;> omega)) _ | refine Below.alloc ?_ (by first | omega | (simp [go_sem]; done) | (simp [go_sem] <;> omega)) _ | refine below_bytesW ?_ (by first | omega | (simp [go_sem]; done) | (simp [go_sem] <;> omega)) _ | refine Below.drew ?_ | refine below_drewN ?_ _))⟩
  · have k1' : (h.kind == 1) = false := by simp [k1]
    by_cases k2 : h.kind = 2
    · have e : textH h = text4L h.addr.b := by unfold textH; rw [if_neg k1, if_pos k2]
      rw [e]
      have k2' : (h.kind == 2) = true := by simp [k2]
      clear k1
      generalize text4L h.addr.b = T at *
      go_enter Tryz.func19, Tryz.ntmps19
      go_wp2_with (go_at_call 42; refine (H4.out _).mono ?_; rintro e w1 ⟨rfl, hb1⟩; obtain ⟨p1, rfl⟩ := grown_of hb1; clear hb1)
      go_ret
      exact ⟨rfl, (by repeat (first | exact Below.refl _ _ | assumption | refine below_grown ?_ (by first | omega | (simp [go_sem]; done) | (simp [go_sem] <;> omega)) _ | refine Below.alloc ?_ (by first | omega | (simp [go_sem]; done) | (simp [go_sem] <;> omega)) _ | refine below_bytesW ?_ (by first | omega | (simp [go_sem]; done) | (simp [go_sem] <;> omega)) _ | refine Below.drew ?_ | refine below_drewN ?_ _))⟩
    · have k2' : (h.kind == 2) = false := by simp [k2]
      by_cases k3 : h.kind = 3
      · have e : textH h = [91] ++ text6L h.addr.b ++ [93] := by unfold textH; rw [if_neg k1, if_neg k2, if_pos k3]
        rw [e]
        have k3' : (h.kind == 3) = true := by simp [k3]
        clear k1 k2
        generalize text6L h.addr.b = T at *
        have hn1 : ¬ 9223372036854775807 < 1 + T.length := by omega
        have hn2 : ¬ 9223372036854775807 < T.length + 1 := by omega
        have hn3 : ¬ 9223372036854775807 < T.length + 1 + 1 := by omega
        have hn4 : ¬ 9223372036854775807 < 1 + T.length + 1 := by omega
        go_enter Tryz.func19, Tryz.ntmps19
        go_wp2_with (go_at_call 43; refine (H6.out _).mono ?_; rintro e w1 ⟨rfl, hb1⟩; obtain ⟨p1, rfl⟩ := grown_of hb1; clear hb1)
        go_ret
        exact ⟨by first | rfl | exact ret_str (by simp), (by repeat (first | exact Below.refl _ _ | assumption | refine below_grown ?_ (by first | omega | (simp [go_sem]; done) | (simp [go_sem] <;> omega)) _ | refine Below.alloc ?_ (by first | omega | (simp [go_sem]; done) | (simp [go_sem] <;> omega)) _ | refine below_bytesW ?_ (by first | omega | (simp [go_sem]; done) | (simp [go_sem] <;> omega)) _ | refine Below.drew ?_ | refine below_drewN ?_ _))⟩
      · have e : textH h = [] := by unfold textH; rw [if_neg k1, if_neg k2, if_neg k3]
        rw [e]
        have k3' : (h.kind == 3) = false := by simp [k3]
        clear k1 k2 k3
        go_enter Tryz.func19, Tryz.ntmps19
        go_wp2
        go_ret
        exact ⟨rfl, (by repeat (first | exact Below.refl _ _ | assumption | refine below_grown ?_ (by first | omega | (simp [go_sem]; done) | (simp [go_sem] <;> omega)) _ | refine Below.alloc ?_ (by first | omega | (simp [go_sem]; done) | (simp [go_sem] <;> omega)) _ | refine below_bytesW ?_ (by first | omega | (simp [go_sem]; done) | (simp [go_sem] <;> omega)) _ | refine Below.drew ?_ | refine below_drewN ?_ _))⟩
set_option maxHeartbeats 1000000 in
theorem refRight_any (h : GHost) (hn : h.name.length ≤ 1999990000) (w : World) :
    Calls Tryz.prog 32 #[.agg (hostC h)] w fun e w' => e = .returned (.bool (rightB h)) ∧ Below w.heap.size w w' := by
  have HT : Hid (∀ w, Calls Tryz.prog 19 #[.agg (hostC h)] w fun e w' => e = .returned (.string ⟨(textH h).toArray⟩) ∧ Below w.heap.size w w') := fun w => refText_any h w
  have HP : Hid (∀ w, Calls Tryz.prog 18 #[.string ⟨(textH h).toArray⟩] w fun e w' => e = .returned (.tuple #[.agg (hostC (parseH (textH h))), .int .i64 (parseE (textH h))]) ∧ Below w.heap.size w w') := fun w => refParse_any _ (by have := textH_len h; omega) w
  unfold rightB
  rcases parseE_cases (textH h) with ⟨h1, h2⟩ | ⟨h1, h2⟩
  all_goals
    rw [h1]
    rw [h2] at HP
    clear h1 h2
    generalize parseH (textH h) = g at *
    generalize textH h = T at *
    go_enter Tryz.func32, Tryz.ntmps32
    go_wp2_with (first
      | (go_at_call 19; refine (HT.out _).mono ?_; rintro e w1 ⟨rfl, hb1⟩; obtain ⟨p1, rfl⟩ := grown_of hb1; clear hb1)
      | (go_at_call 18; refine (HP.out _).mono ?_; rintro e w1 ⟨rfl, hb1⟩; obtain ⟨p1, rfl⟩ := grown_of hb1; clear hb1))
    go_ret
    exact ⟨by first | rfl | exact ret_bool (by simp), (by repeat (first | exact Below.refl _ _ | assumption | refine below_grown ?_ (by first | omega | (simp [go_sem]; done) | (simp [go_sem] <;> omega)) _ | refine Below.alloc ?_ (by first | omega | (simp [go_sem]; done) | (simp [go_sem] <;> omega)) _ | refine below_bytesW ?_ (by first | omega | (simp [go_sem]; done) | (simp [go_sem] <;> omega)) _ | refine Below.drew ?_ | refine below_drewN ?_ _))⟩
set_option maxHeartbeats 1000000 in
theorem refLabels_any (h : GHost) (hn : h.name.length ≤ 1999990000) (w : World) :
    Calls Tryz.prog 22 #[.agg (hostC h)] w (Gives strCod (labelsL h) w) := by
  have HR : Hid (∀ w, Calls Tryz.prog 32 #[.agg (hostC h)] w fun e w' => e = .returned (.bool (rightB h)) ∧ Below w.heap.size w w') := fun w => refRight_any h hn w
  by_cases k1 : h.kind = 1
  · have k1' : (h.kind != 1) = false := by simp [k1]
    cases h2 : rightB h
    · rw [labels_no2 h2]
      rw [h2] at HR
      clear h2 k1
      go_enter Tryz.func22, Tryz.ntmps22
      go_wp2_with (go_at_call 32; refine (HR.out _).mono ?_; rintro e w1 ⟨rfl, hb1⟩; obtain ⟨p1, rfl⟩ := grown_of hb1; clear hb1)
      go_ret
      exact Gives.nil (by repeat (first | exact Below.refl _ _ | assumption | refine below_grown ?_ (by first | omega | (simp [go_sem]; done) | (simp [go_sem] <;> omega)) _ | refine Below.alloc ?_ (by first | omega | (simp [go_sem]; done) | (simp [go_sem] <;> omega)) _ | refine below_bytesW ?_ (by first | omega | (simp [go_sem]; done) | (simp [go_sem] <;> omega)) _ | refine Below.drew ?_ | refine below_drewN ?_ _))
    · rw [labels_yes k1 h2]
      rw [h2] at HR
      have HS : Hid (∀ w, Calls Tryz.prog 28 #[.string ⟨h.name.toArray⟩, .int .u8 46] w (Gives strCod (splitL 46 h.name) w)) := fun w => refSplit_any h.name 46 (by omega) w
      clear h2 k1
      generalize splitL 46 h.name = L at *
      go_enter Tryz.func22, Tryz.ntmps22
      go_wp2_with (first
        | (go_at_call 32; refine (HR.out _).mono ?_; rintro e w1 ⟨rfl, hb1⟩; obtain ⟨p1, rfl⟩ := grown_of hb1; clear hb1)
        | (go_at_call 28; refine (HS.out _).mono ?_; intro e w1 hg; have HG := Lib.hid (Gives.of_below (w := w) (by repeat (first | exact Below.refl _ _ | assumption | refine below_grown ?_ (by first | omega | (simp [go_sem]; done) | (simp [go_sem] <;> omega)) _ | refine Below.alloc ?_ (by first | omega | (simp [go_sem]; done) | (simp [go_sem] <;> omega)) _ | refine below_bytesW ?_ (by first | omega | (simp [go_sem]; done) | (simp [go_sem] <;> omega)) _ | refine Below.drew ?_ | refine below_drewN ?_ _)) hg); obtain ⟨a1, c1, rfl, hc1, hb1, hl1⟩ := hg; clear hc1 hb1 hl1))
      go_ret
      exact HG.out
  · rw [labels_no1 k1]
    have k1' : (h.kind != 1) = true := by simp [k1]
    clear k1
    go_enter Tryz.func22, Tryz.ntmps22
    go_wp2
    go_ret
    exact Gives.nil (by repeat (first | exact Below.refl _ _ | assumption | refine below_grown ?_ (by first | omega | (simp [go_sem]; done) | (simp [go_sem] <;> omega)) _ | refine Below.alloc ?_ (by first | omega | (simp [go_sem]; done) | (simp [go_sem] <;> omega)) _ | refine below_bytesW ?_ (by first | omega | (simp [go_sem]; done) | (simp [go_sem] <;> omega)) _ | refine Below.drew ?_ | refine below_drewN ?_ _))
theorem refUnder_eq (h d : GHost) : refUnderB h d = (!(((labelsL h).length : Int) == 0) && (!(((labelsL d).length : Int) == 0) && (decide (((d.name.length : Int) + 1) < h.name.length) && (h.name.drop (h.name.length - (d.name.length + 1)) == 46 :: d.name)))) := by
  have e : ∀ L : List (List UInt8), L.isEmpty = ((L.length : Int) == 0) := fun L => by
    cases L with
    | nil => rfl
    | cons x L => rw [List.isEmpty_cons, eq_comm, beq_eq_false_iff_ne]; simp; omega
  unfold refUnderB
  rw [e, e]
  congr 3
  rw [decide_eq_decide]; omega
set_option maxHeartbeats 1000000 in
theorem refUnder_any (h d : GHost) (hn : h.name.length ≤ 1999990000) (dn : d.name.length ≤ 1999990000) (w : World) :
    Calls Tryz.prog 21 #[.agg (hostC h), .agg (hostC d)] w fun e w' => e = .returned (.bool (underB h d)) ∧ Below w.heap.size w w' := by
  rw [under_ref, refUnder_eq]
  have HL : Hid (∀ w, Calls Tryz.prog 22 #[.agg (hostC h)] w (Gives strCod (labelsL h) w)) := fun w => refLabels_any h hn w
  have HM : Hid (∀ w, Calls Tryz.prog 22 #[.agg (hostC d)] w (Gives strCod (labelsL d) w)) := fun w => refLabels_any d dn w
  generalize labelsL h = L at *
  generalize labelsL d = M at *
  have hwr : IntKind.i64.wrap ((h.name.length : Int) - ((d.name.length : Int) + 1)) = (h.name.length : Int) - ((d.name.length : Int) + 1) := IntWalk.i64_in _ (by omega)
  have hn1 : ¬ 9223372036854775807 < 1 + d.name.length := by omega
  have hn2 : ¬ 9223372036854775807 < d.name.length + 1 := by omega
  cases h1 : ((L.length : Int) == 0)
  · cases h2 : ((M.length : Int) == 0)
    · by_cases h3 : ((d.name.length : Int) + 1) < h.name.length
      all_goals
        go_enter Tryz.func21, Tryz.ntmps21
        go_wp2_with (first
          | (go_at_call 22; (with_reducible refine (HL.out _).mono ?_); intro e w1 hg; obtain ⟨a1, c1, rfl, hc1, hb1, hl1⟩ := hg; obtain ⟨p1, rfl⟩ := grown_of hb1; clear hb1)
          | (go_at_call 22; (with_reducible refine (HM.out _).mono ?_); intro e w1 hg; obtain ⟨a1, c1, rfl, hc1, hb1, hl1⟩ := hg; obtain ⟨p1, rfl⟩ := grown_of hb1; clear hb1))
        go_ret
        refine ⟨?_, (by repeat (first | exact Below.refl _ _ | assumption | refine below_grown ?_ (by first | omega | (simp [go_sem]; done) | (simp [go_sem] <;> omega)) _ | refine Below.alloc ?_ (by first | omega | (simp [go_sem]; done) | (simp [go_sem] <;> omega)) _ | refine below_bytesW ?_ (by first | omega | (simp [go_sem]; done) | (simp [go_sem] <;> omega)) _ | refine Below.drew ?_ | refine below_drewN ?_ _))⟩
        first | rfl | (apply ret_bool; simp [h3]; done) | (apply ret_bool; simp; intro hh; omega)
    · go_enter Tryz.func21, Tryz.ntmps21
      go_wp2_with (first
        | (go_at_call 22; (with_reducible refine (HL.out _).mono ?_); intro e w1 hg; obtain ⟨a1, c1, rfl, hc1, hb1, hl1⟩ := hg; obtain ⟨p1, rfl⟩ := grown_of hb1; clear hb1)
        | (go_at_call 22; (with_reducible refine (HM.out _).mono ?_); intro e w1 hg; obtain ⟨a1, c1, rfl, hc1, hb1, hl1⟩ := hg; obtain ⟨p1, rfl⟩ := grown_of hb1; clear hb1))
      go_ret
      exact ⟨by first | rfl | exact ret_bool (by simp), (by repeat (first | exact Below.refl _ _ | assumption | refine below_grown ?_ (by first | omega | (simp [go_sem]; done) | (simp [go_sem] <;> omega)) _ | refine Below.alloc ?_ (by first | omega | (simp [go_sem]; done) | (simp [go_sem] <;> omega)) _ | refine below_bytesW ?_ (by first | omega | (simp [go_sem]; done) | (simp [go_sem] <;> omega)) _ | refine Below.drew ?_ | refine below_drewN ?_ _))⟩
  · go_enter Tryz.func21, Tryz.ntmps21
    go_wp2_with (go_at_call 22; refine (HL.out _).mono ?_; intro e w1 hg; obtain ⟨a1, c1, rfl, hc1, hb1, hl1⟩ := hg; obtain ⟨p1, rfl⟩ := grown_of hb1; clear hb1)
    go_ret
    exact ⟨by first | rfl | exact ret_bool (by simp), (by repeat (first | exact Below.refl _ _ | assumption | refine below_grown ?_ (by first | omega | (simp [go_sem]; done) | (simp [go_sem] <;> omega)) _ | refine Below.alloc ?_ (by first | omega | (simp [go_sem]; done) | (simp [go_sem] <;> omega)) _ | refine below_bytesW ?_ (by first | omega | (simp [go_sem]; done) | (simp [go_sem] <;> omega)) _ | refine Below.drew ?_ | refine below_drewN ?_ _))⟩
end

section
open Go Go.RowKit
set_option maxRecDepth 20000
set_option linter.unusedSimpArgs false
set_option linter.unusedVariables false

def domainB (h d : GHost) : Bool := (hostEq h d && rightB h) || underB h d
theorem nameOk_right {h : GHost} (hk : nameOk h = true) : rightB h = true := by
  unfold nameOk at hk
  simp only [Bool.and_eq_true] at hk
  exact hk.2
theorem under_right {h d : GHost} (hu : underB h d = true) : rightB h = true ∧ rightB d = true := by
  unfold underB at hu
  split at hu
  · cases hu
  · rename_i hc
    refine ⟨nameOk_right (labels_ne fun e => hc (.inr (by rw [e]; exact Nat.zero_le _))), nameOk_right (labels_ne fun e => hc (.inl (by rw [e]; rfl)))⟩
theorem domain_ref (h d : GHost) : domainB h d = (rightB h && (rightB d && (hostEq h d || underB h d))) := by
  unfold domainB
  cases hu : underB h d
  · rw [Bool.or_false, Bool.or_false]
    cases he : hostEq h d
    · simp
    · rw [(hostEq_iff _ _).1 he]; simp
  · obtain ⟨h1, h2⟩ := under_right hu
    rw [h1, h2]; simp
theorem domain_self (h : GHost) : domainB h h = rightB h := by
  unfold domainB
  rw [under_self, (hostEq_iff _ _).2 rfl]; simp
end
end
end Go.Proofs.YtmfjabpmhkechaaGreatDoor
