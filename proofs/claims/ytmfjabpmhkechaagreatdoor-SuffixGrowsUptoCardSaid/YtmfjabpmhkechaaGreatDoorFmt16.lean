/- The walk of strconv.FormatUint at base sixteen: a group's digits. -/
import Derived.Test.YtmfjabpmhkechaaGreatDoorAddrFrom
import Derived.Laws.Bits64b
namespace Go.Proofs.YtmfjabpmhkechaaGreatDoor
open Go Go.RowKit
set_option maxRecDepth 20000
set_option linter.unusedSimpArgs false
set_option linter.unusedVariables false

/-- The library's own table holds what its text lays, where it is read. -/
def HasTz (w : World) : Prop := w.cell? ⟨5, 15, none⟩ = some (.int .u8 4)
theorem HasTz.lt {w : World} (h : HasTz w) : 5 < w.heap.size := block_lt_of_cell h
theorem HasTz.below {w w' : World} (h : HasTz w) (hb : Below w.heap.size w w') : HasTz w' := (hb.cell (p := ⟨5, 15, none⟩) h.lt).trans h
theorem HasTz.alloc {w : World} (h : HasTz w) (o : Obj) : HasTz (w.alloc o) := h.below ((Below.refl _ _).alloc (Nat.le_refl _) o)
theorem HasTz.grown {w : World} (h : HasTz w) (p : Regrown) : HasTz (grown w p) := h.below (below_grown' w p)
theorem HasTz.drew {w : World} (h : HasTz w) : HasTz w.drew := h
theorem tz64_any (w : World) (h : HasTz w) :
    Calls Tryz.prog 147 #[.int .u64 16] w fun e w' => e = .returned (.int .i64 4) ∧ w = w' := by
  have hc : w.cell? ⟨5, 15, none⟩ = some (.int .u8 4) := h
  have hk : IntKind.u64.wrap (bits .and .u64 16 (IntKind.u64.wrap (-16)) * 285870213051353865) / 288230376151711744 = 15 := by decide +kernel
  go_enter Tryz.func147, Tryz.ntmps147
  go_wp2
  go_ret
  exact ⟨rfl, rfl⟩
theorem tz_any (w : World) (h : HasTz w) :
    Calls Tryz.prog 144 #[.int .u64 16] w fun e w' => e = .returned (.int .i64 4) ∧ w = w' := by
  go_enter Tryz.func144, Tryz.ntmps144
  go_wp2_with (go_at_call 147; refine (tz64_any _ h).mono ?_; rintro e w' ⟨rfl, rfl⟩)
  go_ret
  exact ⟨rfl, rfl⟩
theorem pow2_any (w : World) :
    Calls Tryz.prog 143 #[.int .i64 16] w fun e w' => e = .returned (.bool true) ∧ w = w' := by
  have hk : (bits .and .i64 16 15 == 0) = true := by decide +kernel
  go_enter Tryz.func143, Tryz.ntmps143
  go_wp2
  go_ret
  exact ⟨rfl, rfl⟩
def dig36 : List UInt8 := [48, 49, 50, 51, 52, 53, 54, 55, 56, 57, 97, 98, 99, 100, 101, 102, 103, 104, 105, 106, 107, 108, 109, 110, 111, 112, 113, 114, 115, 116, 117, 118, 119, 120, 121, 122]
theorem dig_at (n : Nat) (hn : n < 16) (h : n < dig36.length) : dig36[n]'h = hexd n := by
  have key : ∀ i : Fin 16, dig36.getD i.val 0 = hexd i.val := by decide +kernel
  have := key ⟨n, hn⟩
  rw [← this, List.getD_eq_getElem?_getD, List.getElem?_eq_getElem h, Option.getD_some]
theorem hexL_step (n : Nat) (h : 16 ≤ n) (h2 : n < 65536) : hexL n = hexL (n / 16) ++ [hexd (n % 16)] := by
  have e1 : n / 16 / 16 = n / 256 := by omega
  have e2 : n / 16 / 256 = n / 4096 := by omega
  have e3 : n / 16 / 16 % 16 = n / 256 % 16 := by omega
  unfold hexL
  by_cases a : n < 256
  · rw [if_neg (by omega), if_pos a, if_pos (by omega)]; rfl
  · by_cases b : n < 4096
    · rw [if_neg (by omega), if_neg a, if_pos b, if_neg (by omega), if_pos (by omega), e1]; rfl
    · rw [if_neg (by omega), if_neg a, if_neg b, if_neg (by omega), if_neg (by omega), if_pos (by omega), e2, e3]; rfl
theorem and15 (v : Nat) (h : v < 65536) : bits .and .u64 (v : Int) 15 = ((v % 16 : Nat) : Int) := by
  have := u64_and_nat v 15 (by omega) (by omega)
  rw [show ((15 : Nat) : Int) = 15 from rfl] at this
  rw [this, Nat.and_two_pow_sub_one_eq_mod v 4]
theorem rep_set (j : Nat) (D : List UInt8) (d : UInt8) (h : 0 < j) : (List.replicate j (0 : UInt8) ++ D).set (j - 1) d = List.replicate (j - 1) 0 ++ d :: D := by
  obtain ⟨i, rfl⟩ : ∃ i, j = i + 1 := ⟨j - 1, by omega⟩
  rw [Nat.add_sub_cancel, List.replicate_succ']
  rw [List.append_assoc, List.set_append_right _ _ (by simp)]
  simp
theorem var_bytes {w : World} {b : Nat} {P l : List UInt8} (h : Var w b (u8Cod.encs (P ++ l))) : bytesAt w ⟨b, P.length, none⟩ l := fun j hj => by
  have := u8At h.list (P.length + j) (by simp; omega)
  rw [add_mk]
  rw [Nat.zero_add] at this
  rw [this]
  simp
theorem from_slice (b j : Nat) (h1 : 0 < j) (h2 : j ≤ 65) (w : World) : (Instr.sliceAt 161 (.pointer (some ⟨b, 0, none⟩)) (some (.int .i64 ((j : Int) - 1))) none none).run Tryz.prog w = .ok (.slice (some ⟨b, j - 1, none⟩) (66 - j) (66 - j)) w := by
  have ht : Tryz.prog.underlying 161 = some (.array (Tryz.prog.arrayLen 161) (Tryz.prog.elem 161)) := by kernel_rfl
  have hl : Tryz.prog.arrayLen 161 = 65 := by kernel_rfl
  have he : Tryz.prog.elem 161 = 5 := by kernel_rfl
  have hs : ∀ w, (sizeOf 5).run Tryz.prog w = .ok 1 w := fun w => by kernel_rfl
  rw [run_sliceAt_array_l w _ _ ht .i64 _ (by omega) (by rw [hl]; omega), he, hs, hl]
  have e : ((j : Int) - 1).toNat = j - 1 := by omega
  show Result.ok (slicedAt _ _ 65 65 1) w = _
  rw [e, slicedAt, if_neg (by omega), add_mk]
  have e2 : 65 - (j - 1) = 66 - j := by omega
  rw [e2]
  simp
theorem zero65 : Tryz.zeroCells161 = (u8Cod.encs (List.replicate 65 0)).toArray := by kernel_rfl
set_option maxHeartbeats 1000000 in
theorem fmtBits_any (x : UInt16) (w : World) (h : HasTz w) :
    Calls Tryz.prog 138 #[.slice none 0 0, .int .u64 (x.toNat : Int), .int .i64 16, .bool false, .bool false] w fun e w' => e = .returned (.tuple #[.slice none 0 0, .string ⟨(hexL x.toNat).toArray⟩]) ∧ Below w.heap.size w w' := by
  have hx := x.toNat_lt
  generalize x.toNat = n at *
  go_enter Tryz.func138, Tryz.ntmps138
  go_wp2_with (first
    | (go_at_call 143; refine (pow2_any _).mono ?_; rintro e w' ⟨rfl, rfl⟩)
    | (go_at_call 144; refine (tz_any _ (h.alloc _)).mono ?_; rintro e w' ⟨rfl, rfl⟩))
  go_loopw [1, 13] (fun u i wr => ∃ (v j : Nat) (D : List UInt8), v < 65536 ∧ j + D.length = 65 ∧ u = .int .u64 v ∧ i = .int .i64 j ∧ Below w.heap.size w wr ∧ Var wr w.heap.size (u8Cod.encs (List.replicate j 0 ++ D)) ∧ Hid (hexL n = hexL v ++ D)) (fun u _ _ => (intOf u).toNat)
  case atStart => exact ⟨n, 65, [], hx, rfl, rfl, rfl, (by repeat (first | exact Below.refl _ _ | assumption | refine below_grown ?_ (by first | omega | (simp [go_sem]; done) | (simp [go_sem] <;> omega)) _ | refine Below.alloc ?_ (by first | omega | (simp [go_sem]; done) | (simp [go_sem] <;> omega)) _ | refine below_bytesW ?_ (by first | omega | (simp [go_sem]; done) | (simp [go_sem] <;> omega)) _ | refine Below.drew ?_ | refine below_drewN ?_ _)), Var.new _ _ _ (by rw [zero65]; simp) rfl, show _ = _ by simp⟩
  case round =>
    obtain ⟨v, j, D, hv, hj, rfl, rfl, hb, ha, hinv⟩ := hrel
    have hD : D.length ≤ 3 := by
      have h1 := hexL_len n
      have h2 := hexL_len v
      have h3 := congrArg List.length hinv.out
      rw [List.length_append] at h3
      omega
    have hj1 : j ≤ 65 := by omega
    have hj2 : 62 ≤ j := by omega
    have HJ := Lib.hid hj
    have HB := Lib.hid hb
    have hc := ha.cell (j - 1) (by rw [u8Len]; simp; omega)
    have hf := ha.free (j - 1)
    have HS := fun d => rep_set j D d (by omega)
    generalize (u8Cod.encs (List.replicate j 0 ++ D))[j - 1]'_ = old at *
    have hsub : ((j : Int) - 1).toNat = j - 1 := by omega
    clear hj hb
    by_cases hge : 16 ≤ v
    · have HE := Lib.hid (hexL_step v hge hv)
      have hA := and15 v hv
      have hr : v % 16 < 16 := by omega
      have hdg := fun h => dig_at (v % 16) hr h
      unfold dig36 at hdg
      generalize v % 16 = r at *
      have HSS := Lib.hid (HS (hexd r))
      clear HS
      go_wp2
      go_roundw
      case rel =>
        refine ⟨v / 16, j - 1, hexd r :: D, by omega, by have := HJ.out; simp; omega, by simp, by congr 1; omega, HB.out.setCell (Nat.le_refl _) _, ?_, show _ = _ by rw [hinv.out, HE.out]; simp⟩
        rw [← HSS.out, ← u8Set]
        exact ha.setCell _ _
      case measure => simp [intOf]; omega
    · have hr : v < 16 := by omega
      have hdg := fun h => dig_at v hr h
      unfold dig36 at hdg
      have HSS := Lib.hid (HS (hexd v))
      have hsl : ∀ (b : Nat) (w : World), (Instr.sliceAt 161 (.pointer (some ⟨b, 0, none⟩)) (some (.int .i64 ((j : Int) - 1))) none none).run Tryz.prog w = .ok (.slice (some ⟨b, j - 1, none⟩) (66 - j) (66 - j)) w := fun b w => from_slice b j (by omega) hj1 w
      have hstr : strOf (wr.setCell ⟨w.heap.size, j - 1, none⟩ (.int .u8 ((hexd v).toNat : Int))) (.slice (some ⟨w.heap.size, j - 1, none⟩) (66 - j) (66 - j)) = some (hexL n) := by
        have hv2 : Var (wr.setCell ⟨w.heap.size, j - 1, none⟩ (.int .u8 ((hexd v).toNat : Int))) w.heap.size (u8Cod.encs (List.replicate (j - 1) 0 ++ hexd v :: D)) := by
          rw [← HSS.out, ← u8Set]; exact ha.setCell _ _
        have hb2 := strOf_bytes (var_bytes hv2) (66 - j)
        have e : hexL n = hexd v :: D := by
          rw [hinv.out]
          have : hexL v = [hexd v] := by rw [hexL, if_pos hr]
          rw [this]; rfl
        have e2 : (hexd v :: D).length = 66 - j := by have := HJ.out; simp; omega
        rw [e2, List.length_replicate] at hb2
        rw [hb2, e]
      clear HS
      go_wp2
      go_ret2
      exact ⟨rfl, HB.out.setCell (Nat.le_refl _) _⟩
theorem fmtU_any (x : UInt16) (w : World) (h : HasTz w) :
    Calls Tryz.prog 126 #[.int .u64 (x.toNat : Int), .int .i64 16] w fun e w' => e = .returned (.string ⟨(hexL x.toNat).toArray⟩) ∧ Below w.heap.size w w' := by
  go_enter Tryz.func126, Tryz.ntmps126
  go_wp2_with (go_at_call 138; refine (fmtBits_any x _ h).mono ?_; rintro e w1 ⟨rfl, hb1⟩; obtain ⟨p1, rfl⟩ := grown_of hb1; clear hb1)
  go_ret
  exact ⟨rfl, (by repeat (first | exact Below.refl _ _ | assumption | refine below_grown ?_ (by first | omega | (simp [go_sem]; done) | (simp [go_sem] <;> omega)) _ | refine Below.alloc ?_ (by first | omega | (simp [go_sem]; done) | (simp [go_sem] <;> omega)) _ | refine below_bytesW ?_ (by first | omega | (simp [go_sem]; done) | (simp [go_sem] <;> omega)) _ | refine Below.drew ?_ | refine below_drewN ?_ _))⟩
theorem fmt16_any (x : UInt16) (w : World) (h : HasTz w) :
    Calls Tryz.prog 111 #[.int .u64 (x.toNat : Int), .int .i64 16] w fun e w' => e = .returned (.string ⟨(hexL x.toNat).toArray⟩) ∧ Below w.heap.size w w' := by
  go_enter Tryz.func111, Tryz.ntmps111
  go_wp2_with (go_at_call 126; refine (fmtU_any x _ h).mono ?_; rintro e w1 ⟨rfl, hb1⟩; obtain ⟨p1, rfl⟩ := grown_of hb1; clear hb1)
  go_ret
  exact ⟨rfl, (by repeat (first | exact Below.refl _ _ | assumption | refine below_grown ?_ (by first | omega | (simp [go_sem]; done) | (simp [go_sem] <;> omega)) _ | refine Below.alloc ?_ (by first | omega | (simp [go_sem]; done) | (simp [go_sem] <;> omega)) _ | refine below_bytesW ?_ (by first | omega | (simp [go_sem]; done) | (simp [go_sem] <;> omega)) _ | refine Below.drew ?_ | refine below_drewN ?_ _))⟩
end Go.Proofs.YtmfjabpmhkechaaGreatDoor
