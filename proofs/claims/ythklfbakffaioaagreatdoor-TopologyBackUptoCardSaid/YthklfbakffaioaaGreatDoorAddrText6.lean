/- The walk of Text6: as eight groups, as short as it goes. -/
import Derived.Test.YthklfbakffaioaaGreatDoorAddrZeros
import Derived.Test.YthklfbakffaioaaGreatDoorAddrV6
namespace Go.Proofs.YthklfbakffaioaaGreatDoor
open Go Go.RowKit
set_option maxRecDepth 20000
set_option linter.unusedSimpArgs false
set_option linter.unusedVariables false

theorem head_slice (b k : Nat) (hk : k ≤ 8) (w : World) : (Instr.sliceAt 150 (.pointer (some ⟨b, 0, none⟩)) none (some (.int .i64 (k : Int))) none).run Tryz.prog w = .ok (.slice (some ⟨b, 0, none⟩) k 8) w := by
  have ht : Tryz.prog.underlying 150 = some (.array (Tryz.prog.arrayLen 150) (Tryz.prog.elem 150)) := by kernel_rfl
  have hl : Tryz.prog.arrayLen 150 = 8 := by kernel_rfl
  have he : Tryz.prog.elem 150 = 149 := by kernel_rfl
  have hs : ∀ w, (sizeOf 149).run Tryz.prog w = .ok 1 w := fun w => by kernel_rfl
  rw [run_sliceAt_array_h w _ _ ht .i64 _ (by omega) (by rw [hl]; omega), he, hs, hl]
  show Result.ok (slicedAt _ _ _ 8 1) w = _
  simp [slicedAt, add_mk]
theorem tail_slice (b k : Nat) (hk : k ≤ 8) (x : Int) (hx : x = k) (w : World) : (Instr.sliceAt 150 (.pointer (some ⟨b, 0, none⟩)) (some (.int .i64 x)) none none).run Tryz.prog w = .ok (.slice (some (lastAddr b (8 - k))) (8 - k) (8 - k)) w := by
  have e : x = 8 - ((8 - k : Nat) : Int) := by omega
  rw [e]
  exact last_slice b (8 - k) (by omega) w
theorem head_in {w : World} {b k lo : Nat} {xs : List UInt16} (h : ListAt u16Cod w b 0 xs) (hb : b < w.heap.size) (hl : lo ≤ b) : ListIn u16Cod w (some ⟨b, 0, none⟩) (xs.take k) lo := .inr ⟨b, 0, rfl, hl, hb, h.take k⟩
theorem tail_in {w : World} {b k lo : Nat} {xs : List UInt16} (h : ListAt u16Cod w b 0 xs) (hb : b < w.heap.size) (hl : lo ≤ b) (hx : xs.length = 8) (hk : k ≤ 8) : ListIn u16Cod w (some (lastAddr b (8 - k))) (xs.drop k) lo := by
  by_cases h0 : k = 8
  · exact .inl (List.drop_of_length_le (by omega))
  · refine .inr ⟨b, k, ?_, hl, hb, ?_⟩
    · rw [lastAddr, if_neg (by omega), show 8 - (8 - k) = k by omega]
    · have := h.drop k (by omega)
      rwa [show 0 + k * u16Cod.sz = k by show 0 + k * 1 = k; omega] at this
set_option maxHeartbeats 1000000 in
theorem text6_any (a : GAddr) (w : World) (htz : HasTz w) :
    Calls Tryz.prog 79 #[.agg (addrC a)] w fun e w' => e = .returned (.string ⟨(text6L a.b).toArray⟩) ∧ Below w.heap.size w w' := by
  have hg8 : (grpL a.b).length = 8 := (grpG a).len
  have hz8 : (nulls (grpL a.b)).length = 8 := by simp [nulls, hg8]
  have HZ : Hid (∀ w, Calls Tryz.prog 121 #[.agg (groupsC (grpG a))] w fun e w' => e = .returned (.tuple #[.int .i64 (zAt (nulls (grpL a.b)) : Int), .int .i64 (zLong (nulls (grpL a.b)) : Int)]) ∧ Below w.heap.size w w') := fun w => zeros_any (grpG a) w
  have HG : Hid (∀ w, Calls Tryz.prog 120 #[.agg (addrC a)] w fun e w' => e = .returned (.agg (groupsC (grpG a))) ∧ Below w.heap.size w w') := fun w => groups_any a w
  have HW : Hid (∀ (w : World) (x : Option Addr) (ys : List UInt16) (n c lo : Nat), n = ys.length → ys.length ≤ 8 → ListIn u16Cod w x ys lo → HasTz w → Calls Tryz.prog 122 #[.slice x n c] w fun e w' => e = .returned (.string ⟨(writtenL ys).toArray⟩) ∧ Below w.heap.size w w') := fun w x ys n c lo hn h8 hin htz => hn ▸ written_any ys x c lo h8 w hin htz
  by_cases h2 : zLong (nulls (grpL a.b)) < 2
  · have HT : Hid (text6L a.b = writtenL (grpL a.b)) := show _ = _ by rw [text6L, text6G, if_pos h2]
    generalize text6L a.b = T at *
    generalize zLong (nulls (grpL a.b)) = n at *
    generalize zAt (nulls (grpL a.b)) = z at *
    have HX : Hid ((groupsC (grpG a)).toList = u16Cod.encs (grpL a.b)) := rfl
    generalize grpG a = G at *
    generalize grpL a.b = g at *
    go_enter Tryz.func79, Tryz.ntmps79
    go_wp2_with (first
      | (go_at_call 120; refine (HG.out _).mono ?_; rintro e w1 ⟨rfl, hb1⟩; obtain ⟨p1, rfl⟩ := grown_of hb1; clear hb1)
      | (go_at_call 121; refine (HZ.out _).mono ?_; rintro e w1 ⟨rfl, hb1⟩; have hat := (listAt_new (c := u16Cod) (xs := g) _ (groupsC G) _ HX.out (b := w.heap.size + 1 + p1.os.size) (by simp [go_sem])).below hb1; have hbw := bel_up (w := w) (by repeat (first | exact Below.refl _ _ | assumption | refine below_grown ?_ (by first | omega | (simp [go_sem]; done) | (simp [go_sem] <;> omega)) _ | refine Below.alloc ?_ (by first | omega | (simp [go_sem]; done) | (simp [go_sem] <;> omega)) _ | refine below_bytesW ?_ (by first | omega | (simp [go_sem]; done) | (simp [go_sem] <;> omega)) _ | refine Below.drew ?_ | refine below_drewN ?_ _)) hb1; have hbs := hbw.size; have hlt := hb1.size; simp [go_sem] at hlt; clear hb1)
      | (go_at_call 122; refine (HW.out _ _ g 8 8 0 hg8.symm (Nat.le_of_eq hg8) (.inr ⟨_, 0, rfl, Nat.zero_le _, by omega, hat⟩) (htz.below hbw)).mono ?_; rintro e w1 ⟨rfl, hb1⟩; obtain ⟨p1, rfl⟩ := grown_of hb1; clear hb1))
    go_ret
    exact ⟨by rw [HT.out]; rfl, (by repeat (first | exact Below.refl _ _ | assumption | refine below_grown ?_ (by first | omega | (simp [go_sem]; done) | (simp [go_sem] <;> omega)) _ | refine Below.alloc ?_ (by first | omega | (simp [go_sem]; done) | (simp [go_sem] <;> omega)) _ | refine below_bytesW ?_ (by first | omega | (simp [go_sem]; done) | (simp [go_sem] <;> omega)) _ | refine Below.drew ?_ | refine below_drewN ?_ _))⟩
  · have HT : Hid (text6L a.b = writtenL ((grpL a.b).take (zAt (nulls (grpL a.b)))) ++ [58, 58] ++ writtenL ((grpL a.b).drop (zAt (nulls (grpL a.b)) + zLong (nulls (grpL a.b))))) := show _ = _ by rw [text6L, text6G, if_neg h2]
    obtain ⟨_, hzn, _, _⟩ := z_long hz8 (by omega)
    generalize text6L a.b = T at *
    generalize zLong (nulls (grpL a.b)) = n at *
    generalize zAt (nulls (grpL a.b)) = z at *
    have HX : Hid ((groupsC (grpG a)).toList = u16Cod.encs (grpL a.b)) := rfl
    generalize grpG a = G at *
    generalize grpL a.b = g at *
    have HTK : Hid (z = (g.take z).length) := show _ = _ by rw [List.length_take]; omega
    have HDR : Hid (8 - (z + n) = (g.drop (z + n)).length) := show _ = _ by rw [List.length_drop]; omega
    have hsh : ∀ (b : Nat) (w : World), (Instr.sliceAt 150 (.pointer (some ⟨b, 0, none⟩)) none (some (.int .i64 (z : Int))) none).run Tryz.prog w = .ok (.slice (some ⟨b, 0, none⟩) z 8) w := fun b w => head_slice b z (by omega) w
    have hst : ∀ (b : Nat) (w : World), (Instr.sliceAt 150 (.pointer (some ⟨b, 0, none⟩)) (some (.int .i64 ((z : Int) + n))) none none).run Tryz.prog w = .ok (.slice (some (lastAddr b (8 - (z + n)))) (8 - (z + n)) (8 - (z + n))) w := fun b w => tail_slice b (z + n) hzn _ (by simp) w
    have hw1 := hexs_le (g.take z)
    have hw2 := hexs_le (g.drop (z + n))
    rw [List.length_take] at hw1
    rw [List.length_drop] at hw2
    go_enter Tryz.func79, Tryz.ntmps79
    go_wp2_with (first
      | (go_at_call 120; refine (HG.out _).mono ?_; rintro e w1 ⟨rfl, hb1⟩; obtain ⟨p1, rfl⟩ := grown_of hb1; clear hb1)
      | (go_at_call 121; refine (HZ.out _).mono ?_; rintro e w1 ⟨rfl, hb1⟩; have hat := (listAt_new (c := u16Cod) (xs := g) _ (groupsC G) _ HX.out (b := w.heap.size + 1 + p1.os.size) (by simp [go_sem])).below hb1; have hbw := bel_up (w := w) (by repeat (first | exact Below.refl _ _ | assumption | refine below_grown ?_ (by first | omega | (simp [go_sem]; done) | (simp [go_sem] <;> omega)) _ | refine Below.alloc ?_ (by first | omega | (simp [go_sem]; done) | (simp [go_sem] <;> omega)) _ | refine below_bytesW ?_ (by first | omega | (simp [go_sem]; done) | (simp [go_sem] <;> omega)) _ | refine Below.drew ?_ | refine below_drewN ?_ _)) hb1; have hbs := hbw.size; have hlt := hb1.size; simp [go_sem] at hlt; clear hb1))
    have hh := head_in (k := z) (lo := 0) hat (by omega) (Nat.zero_le _)
    have ht := tail_in (k := z + n) (lo := 0) hat (by omega) (Nat.zero_le _) hg8 hzn
    have htz1 := htz.below hbw
    have hn1 : ¬ 9223372036854775807 < (writtenL (g.take z)).length + 2 := by omega
    have hn2 : ¬ 9223372036854775807 < (writtenL (g.take z)).length + 2 + (writtenL (g.drop (z + n))).length := by omega
    have hwr : IntKind.i64.wrap ((z : Int) + n) = (z : Int) + n := IntWalk.i64_in _ (by omega)
    clear hat
    refine wp_region_quiet_grown (by kernel_rfl) (by kernel_rfl) ?_
    repeat (quiet_step ((go_at_call 122; first | (with_reducible exact quiet_grown (HW.out _ _ (g.take z) _ _ 0 HTK.out (by rw [← HTK.out]; omega) (hh.grown _) (htz1.grown _))) | (with_reducible exact quiet_grown (HW.out _ _ (g.drop (z + n)) _ _ 0 HDR.out (by rw [← HDR.out]; omega) (ht.grown _) (htz1.grown _))))))
    refine wpQuiet_nil ?_; intro _ hw'; obtain ⟨pq, hw''⟩ := hw'; subst hw''
    go_wp2
    go_ret
    exact ⟨by rw [HT.out]; simp, (by repeat (first | exact Below.refl _ _ | assumption | refine below_grown ?_ (by first | omega | (simp [go_sem]; done) | (simp [go_sem] <;> omega)) _ | refine Below.alloc ?_ (by first | omega | (simp [go_sem]; done) | (simp [go_sem] <;> omega)) _ | refine below_bytesW ?_ (by first | omega | (simp [go_sem]; done) | (simp [go_sem] <;> omega)) _ | refine Below.drew ?_ | refine below_drewN ?_ _))⟩
end Go.Proofs.YthklfbakffaioaaGreatDoor
