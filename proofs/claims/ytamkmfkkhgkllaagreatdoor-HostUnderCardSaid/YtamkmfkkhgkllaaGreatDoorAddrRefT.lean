/- The walks of the document's part and Text6. -/
import Derived.Test.YtamkmfkkhgkllaaGreatDoorAddrRef6
import Derived.Test.YtamkmfkkhgkllaaGreatDoorAddrZeros
namespace Go.Proofs.YtamkmfkkhgkllaaGreatDoor
open Go Go.RowKit
set_option maxRecDepth 20000
set_option linter.unusedSimpArgs false
set_option linter.unusedVariables false

theorem seg_succ {α : Type} (G : List α) (f i : Nat) (hf : f ≤ i) (hi : i < G.length) : (G.take (i + 1)).drop f = (G.take i).drop f ++ [G[i]'hi] := by
  rw [List.take_succ_eq_append_getElem hi, List.drop_append_of_le_length (by rw [List.length_take]; omega)]
theorem part_first (G : List UInt16) (f : Nat) (hf : f < G.length) : writtenL ((G.take (f + 1)).drop f) = hexL (G[f]'hf).toNat := by
  rw [seg_succ G f f (Nat.le_refl _) hf, List.drop_of_length_le (by rw [List.length_take]; omega)]
  simp [writtenL, joinL]
theorem part_next (G : List UInt16) (f i : Nat) (hf : f < i) (hi : i < G.length) : writtenL ((G.take (i + 1)).drop f) = writtenL ((G.take i).drop f) ++ [58] ++ hexL (G[i]'hi).toNat := by
  rw [seg_succ G f i (by omega) hi, writtenL, List.map_append, List.map_singleton, joinL_snoc 58 _ _ (by
    intro e
    have := congrArg List.length e
    simp at this
    omega)]
  rfl
theorem part_len (G : List UInt16) (hG : G.length = 8) (f i : Nat) : (writtenL ((G.take i).drop f)).length ≤ 40 := by
  have := hexs_le ((G.take i).drop f)
  rw [List.length_drop, List.length_take] at this
  omega
set_option maxHeartbeats 1000000 in
theorem part_any (a : GAddr) (f t : Nat) (hf : f ≤ t) (ht : t ≤ 8) (w : World) :
    Calls Tryz.prog 98 #[.agg (addrC a), .int .i64 (f : Int), .int .i64 (t : Int)] w fun e w' => e = .returned (.string ⟨(writtenL (((grpL a.b).take t).drop f)).toArray⟩) ∧ Below w.heap.size w w' := by
  have hG : (grpL a.b).length = 8 := (grpG a).len
  have HGR := Lib.hid (fun k hk hk' w => group02_any a k hk hk' w)
  have HPL := Lib.hid (part_len (grpL a.b) hG f)
  have HVA : Hid (Var (w.alloc (Obj.cells (addrC a) 24)) w.heap.size (addrL a)) := Var.new _ _ _ rfl rfl
  have hal : (addrL a).length = 16 := addrL_length a
  have hac : (addrL a).toArray = addrC a := rfl
  generalize hS : writtenL (((grpL a.b).take t).drop f) = S
  generalize grpL a.b = G at *
  generalize hAC : addrC a = ac at *
  generalize addrL a = al at *
  go_enter Tryz.func98, Tryz.ntmps98
  go_wp2
  go_loopw [7, 8] (fun s i wr => ∃ (k : Nat), f ≤ k ∧ k ≤ t ∧ i = .int .i64 k ∧ s = .string ⟨(writtenL ((G.take k).drop f)).toArray⟩ ∧ Below w.heap.size w wr ∧ w.heap.size < wr.heap.size ∧ Var wr w.heap.size al) (fun _ i _ => t - (intOf i).toNat)
  case atStart => exact ⟨f, Nat.le_refl _, hf, rfl, by rw [List.drop_of_length_le (by rw [List.length_take]; omega)]; rfl, (by repeat (first | exact Below.refl _ _ | assumption | refine below_grown ?_ (by first | omega | (simp [go_sem]; done) | (simp [go_sem] <;> omega)) _ | refine Below.alloc ?_ (by first | omega | (simp [go_sem]; done) | (simp [go_sem] <;> omega)) _ | refine below_bytesW ?_ (by first | omega | (simp [go_sem]; done) | (simp [go_sem] <;> omega)) _ | refine Below.drew ?_ | refine below_drewN ?_ _)), by simp [go_sem], HVA.out⟩
  case round =>
    obtain ⟨k, hfk, hk, rfl, rfl, hb, hsz, hv⟩ := hrel
    have HB := Lib.hid hb
    have HV := Lib.hid hv
    have h1 : hasRow wr ⟨w.heap.size, 0, none⟩ 16 = true := hv.hasRow hal
    have h2 : rowAt wr ⟨w.heap.size, 0, none⟩ 16 = ac := by rw [hv.rowAt hal, hac]
    clear hb hv
    by_cases hlt : k < t
    · have HG := Lib.hid (HGR.out k (by omega) (by omega))
      have hx := (G[k]'(by omega)).toNat_lt
      have HX := Lib.hid (fun w => hex_any (G[k]'(by omega : k < G.length)).toNat hx w)
      have hxl := (hexL_len (G[k]'(by omega : k < G.length)).toNat).2
      have hpl := HPL.out k
      by_cases hgt : f < k
      · have HE := Lib.hid (part_next G f k hgt (by omega))
        generalize writtenL ((G.take k).drop f) = P at *
        generalize (G[k]'(by omega : k < G.length)).toNat = x at *
        generalize hexL x = X at *
        have hn1 : ¬ 9223372036854775807 < P.length + 1 := by omega
        have hn2 : ¬ 9223372036854775807 < P.length + 1 + X.length := by omega
        go_wp2_with (first
          | (go_at_call 97; refine (HG.out _).mono ?_; rintro e w1 ⟨rfl, hb1⟩; obtain ⟨p1, rfl⟩ := grown_of hb1; clear hb1)
          | (go_at_call 104; refine (HX.out _).mono ?_; rintro e w1 ⟨rfl, hb1⟩; obtain ⟨p1, rfl⟩ := grown_of hb1; clear hb1))
        go_roundw
        case rel => exact ⟨k + 1, by omega, by omega, by go_num, by rw [HE.out]; simp, below_grown (below_grown HB.out HB.out.size _) (by first | omega | (simp; done) | (simp; omega) | (simp [go_sem]; done) | (simp [go_sem]; omega)) _, by simp [go_sem]; omega, (HV.out.grown _).grown _⟩
        case measure => simp [intOf]; omega
      · obtain rfl : f = k := by omega
        have HE := Lib.hid (part_first G f (by omega))
        have HP0 : Hid (writtenL ((G.take f).drop f) = []) := show _ = _ by rw [List.drop_of_length_le (by rw [List.length_take]; omega)]; rfl
        rw [HP0.out]
        generalize (G[f]'(by omega : f < G.length)).toNat = x at *
        generalize hexL x = X at *
        go_wp2_with (first
          | (go_at_call 97; refine (HG.out _).mono ?_; rintro e w1 ⟨rfl, hb1⟩; obtain ⟨p1, rfl⟩ := grown_of hb1; clear hb1)
          | (go_at_call 104; refine (HX.out _).mono ?_; rintro e w1 ⟨rfl, hb1⟩; obtain ⟨p1, rfl⟩ := grown_of hb1; clear hb1))
        go_roundw
        case rel => exact ⟨f + 1, by omega, by omega, by go_num, by rw [HE.out], below_grown (below_grown HB.out HB.out.size _) (by first | omega | (simp; done) | (simp; omega) | (simp [go_sem]; done) | (simp [go_sem]; omega)) _, by simp [go_sem]; omega, (HV.out.grown _).grown _⟩
        case measure => simp [intOf]; omega
    · obtain rfl : k = t := by omega
      go_wp2
      go_ret
      exact ⟨ret_str hS, HB.out⟩
theorem win_zero (z : List Bool) (a : Nat) : winB z a 0 = true := by simp [winB]
theorem win_succ (z : List Bool) (a n : Nat) (h : a + n < z.length) : winB z a (n + 1) = (winB z a n && z[a + n]'h) := by
  unfold winB
  rw [List.take_succ_eq_append_getElem (by rw [List.length_drop]; omega), List.all_append, List.getElem_drop]
  simp
theorem nulls_get (g : List UInt16) (k : Nat) (h : k < g.length) (h2 : k < (nulls g).length) : (nulls g)[k]'h2 = (((g[k]'h).toNat : Int) == 0) := by
  have e : (nulls g)[k]'h2 = (g[k]'h == 0) := by simp [nulls]
  rw [e, Bool.eq_iff_iff, beq_iff_eq, beq_iff_eq, ← UInt16.toNat_inj]
  show (_ = 0) ↔ _
  omega
set_option maxHeartbeats 2000000 in
theorem refText6_any (a : GAddr) (w : World) :
    Calls Tryz.prog 82 #[.agg (addrC a)] w fun e w' => e = .returned (.string ⟨(text6L a.b).toArray⟩) ∧ Below w.heap.size w w' := by
  have hG : (grpL a.b).length = 8 := (grpG a).len
  have hz8 : (nulls (grpL a.b)).length = 8 := by simp [nulls, hG]
  have HGR := Lib.hid (fun k hk hk' w => group02_any a k hk hk' w)
  have HPT := Lib.hid (fun f t hf ht w => part_any a f t hf ht w)
  have HPL := Lib.hid (part_len (grpL a.b) hG)
  have HVA : Hid (Var (w.alloc (Obj.cells (addrC a) 24)) w.heap.size (addrL a)) := Var.new _ _ _ rfl rfl
  have HNL : Hid (∀ k (h : k < (nulls (grpL a.b)).length) (h' : k < (grpL a.b).length), (nulls (grpL a.b))[k]'h = ((((grpL a.b)[k]'h').toNat : Int) == 0)) := fun k h h' => nulls_get _ k h' h
  have HFIRST : Hid (∀ n p, 2 ≤ n → p + n ≤ 8 → winB (nulls (grpL a.b)) p n = true → (∀ n' a', n < n' → a' + n' ≤ 8 → winB (nulls (grpL a.b)) a' n' = false) → (∀ a', a' < p → winB (nulls (grpL a.b)) a' n = false) → writtenL (((grpL a.b).take p).drop 0) ++ [58, 58] ++ writtenL (((grpL a.b).take 8).drop (p + n)) = text6L a.b) := fun n p h1 h2 h3 h4 h5 => by
    obtain ⟨e1, e2⟩ := z_first hz8 h1 h2 h3 h4 h5
    rw [text6L, text6G, e1, e2, if_neg (by omega), List.drop_zero, List.take_of_length_le (Nat.le_of_eq hG)]
  have HLAST : Hid ((∀ n' a', 1 < n' → a' + n' ≤ 8 → winB (nulls (grpL a.b)) a' n' = false) → writtenL (((grpL a.b).take 8).drop 0) = text6L a.b) := fun h => by
    have hs : zLong (nulls (grpL a.b)) < 2 := by
      rcases Nat.lt_or_ge (zLong (nulls (grpL a.b))) 2 with h' | h'
      · exact h'
      · obtain ⟨w1, w2, _⟩ := z_long hz8 h'
        rw [h _ _ (by omega) w2] at w1; cases w1
    rw [text6L, text6G, if_pos hs, List.drop_zero, List.take_of_length_le (Nat.le_of_eq hG)]
  have hal : (addrL a).length = 16 := addrL_length a
  have hac : (addrL a).toArray = addrC a := rfl
  generalize text6L a.b = T at *
  generalize nulls (grpL a.b) = z at *
  generalize grpL a.b = G at *
  generalize hAC : addrC a = ac at *
  generalize addrL a = al at *
  go_enter Tryz.func82, Tryz.ntmps82
  go_wp2
  go_loopw [3, 4, 5, 6] (fun lo _ _ _ wr => ∃ (n : Nat), 1 ≤ n ∧ n ≤ 8 ∧ lo = .int .i64 n ∧ Below w.heap.size w wr ∧ w.heap.size < wr.heap.size ∧ Var wr w.heap.size al ∧ Hid (∀ n' a', n < n' → a' + n' ≤ 8 → winB z a' n' = false)) (fun lo _ _ _ _ => (intOf lo).toNat)
  case atStart => exact ⟨8, by omega, by omega, rfl, (by repeat (first | exact Below.refl _ _ | assumption | refine below_grown ?_ (by first | omega | (simp [go_sem]; done) | (simp [go_sem] <;> omega)) _ | refine Below.alloc ?_ (by first | omega | (simp [go_sem]; done) | (simp [go_sem] <;> omega)) _ | refine below_bytesW ?_ (by first | omega | (simp [go_sem]; done) | (simp [go_sem] <;> omega)) _ | refine Below.drew ?_ | refine below_drewN ?_ _)), by simp [go_sem], HVA.out, fun n' a' h h' => by omega⟩
  case round =>
    obtain ⟨n, hn1, hn8, rfl, hb, hsz, hv, hno⟩ := hrel
    have HB := Lib.hid hb
    have HV := Lib.hid hv
    have h1 : hasRow wr ⟨w.heap.size, 0, none⟩ 16 = true := hv.hasRow hal
    have h2 : rowAt wr ⟨w.heap.size, 0, none⟩ 16 = ac := by rw [hv.rowAt hal, hac]
    clear hb hv
    by_cases hn2 : 2 ≤ n
    · have hn2' : (2 : Int) ≤ n := by omega
      clear h1 h2
      go_wp2
      obtain ⟨wo, hwo⟩ : ∃ wo : World, wo = wr := ⟨_, rfl⟩
      go_loopw [4, 5, 6] (fun at' _ _ wr => ∃ (p : Nat), p + n ≤ 9 ∧ at' = .int .i64 p ∧ Below w.heap.size w wr ∧ w.heap.size < wr.heap.size ∧ Var wr w.heap.size al ∧ Hid (∀ a', a' < p → winB z a' n = false)) (fun at' _ _ _ => 9 - (intOf at').toNat)
      case atStart => exact ⟨0, by omega, rfl, HB.out, hsz, HV.out, fun a' h => by cases h⟩
      case round =>
        obtain ⟨p, hp, rfl, hb, hsz1, hv, hno2⟩ := hrel
        have HB1 := Lib.hid hb
        have HV1 := Lib.hid hv
        clear hb hv
        by_cases hp8 : p + n ≤ 8
        · have hp8' : (p : Int) + n ≤ 8 := by omega
          go_wp2
          obtain ⟨wo1, hwo1⟩ : ∃ wo : World, wo = wr := ⟨_, rfl⟩
          go_loopw [5, 6] (fun all i wr => ∃ (j : Nat) (b : Bool), j ≤ n ∧ i = .int .i64 ((p + j : Nat) : Int) ∧ all = .bool b ∧ b = winB z p j ∧ Below w.heap.size w wr ∧ w.heap.size < wr.heap.size ∧ Var wr w.heap.size al) (fun _ i _ => p + n - (intOf i).toNat)
          case atStart => exact ⟨0, true, by omega, rfl, rfl, (win_zero z p).symm, HB1.out, hsz1, HV1.out⟩
          case round =>
            obtain ⟨j, b, hj, rfl, rfl, hbw, hb, hsz2, hv⟩ := hrel
            have HB2 := Lib.hid hb
            have HV2 := Lib.hid hv
            have h1 : hasRow wr ⟨w.heap.size, 0, none⟩ 16 = true := hv.hasRow hal
            have h2 : rowAt wr ⟨w.heap.size, 0, none⟩ 16 = ac := by rw [hv.rowAt hal, hac]
            clear hb hv
            by_cases hjn : j < n
            · have hjn' : ((p + j : Nat) : Int) < (p : Int) + n := by omega
              have HW := Lib.hid (win_succ z p j (by omega))
              have HG := Lib.hid (HGR.out (p + j) (by omega) (by omega))
              have hq := HNL.out (p + j) (by omega) (by omega)
              generalize (G[p + j]'(by omega : p + j < G.length)).toNat = x at *
              generalize z[p + j]'(by omega : p + j < z.length) = zb at *
              have hq' := hq.symm
              clear hq
              have HBW := Lib.hid hbw
              clear hbw
              cases b
              · go_wp2
                go_roundw
                case rel => exact ⟨j + 1, false, by omega, by go_num, rfl, by rw [HW.out, ← HBW.out]; rfl, HB2.out, hsz2, HV2.out⟩
                case measure => simp [intOf]; omega
              · go_wp2_with (go_at_call 97; refine (HG.out _).mono ?_; rintro e w1 ⟨rfl, hb1⟩; obtain ⟨p1, rfl⟩ := grown_of hb1; clear hb1)
                go_roundw
                case rel => exact ⟨j + 1, zb, by omega, by go_num, rfl, by rw [HW.out, ← HBW.out]; rfl, below_grown HB2.out HB2.out.size _, by simp [go_sem]; omega, HV2.out.grown _⟩
                case measure => simp [intOf]; omega
            · obtain rfl : j = n := by omega
              have hjn' : ¬ ((p + j : Nat) : Int) < (p : Int) + j := by omega
              cases b
              · have HNN : Hid (∀ a', a' < p + 1 → winB z a' j = false) := fun a' h => by
                  by_cases e : a' = p
                  · subst e; exact hbw.symm
                  · exact hno2.out a' (by omega)
                clear hbw
                go_wp2
                go_roundw
                case rel => exact ⟨p + 1, by omega, by go_num, HB2.out, hsz2, HV2.out, HNN.out⟩
                case measure => simp [intOf]; omega
              · have hT := HFIRST.out j p hn2 hp8 hbw.symm hno.out hno2.out
                have HT := Lib.hid hT
                have HA := Lib.hid (HPT.out 0 p (by omega) (by omega))
                have HC : Hid (∀ w, Calls Tryz.prog 98 #[.agg ac, .int .i64 ((p : Int) + j), .int .i64 8] w fun e w' => e = .returned (.string ⟨(writtenL ((G.take 8).drop (p + j))).toArray⟩) ∧ Below w.heap.size w w') := fun w => by
                  have := HPT.out (p + j) 8 hp8 (by omega) w
                  rwa [Int.natCast_add] at this
                have hl1 := HPL.out 0 p
                have hl2 := HPL.out (p + j) 8
                clear hbw hT
                generalize writtenL ((G.take p).drop 0) = X at *
                generalize writtenL ((G.take 8).drop (p + j)) = Y at *
                have hn1 : ¬ 9223372036854775807 < X.length + 2 := by omega
                have hn2 : ¬ 9223372036854775807 < X.length + 2 + Y.length := by omega
                have hwr : IntKind.i64.wrap ((p : Int) + j) = (p : Int) + j := IntWalk.i64_in _ (by omega)
                have h3 : ∀ p, hasRow (grown wr p) ⟨w.heap.size, 0, none⟩ 16 = true := fun p => (HV2.out.grown p).hasRow hal
                have h4 : ∀ p, rowAt (grown wr p) ⟨w.heap.size, 0, none⟩ 16 = ac := fun p => by rw [(HV2.out.grown p).rowAt hal, hac]
                go_wp2
                refine wp_region_quiet_grown (by kernel_rfl) (by kernel_rfl) ?_
                repeat (quiet_step ((go_at_call 98; first | (with_reducible exact quiet_grown (HA.out _)) | (with_reducible exact quiet_grown (HC.out _)))))
                refine wpQuiet_nil ?_; intro _ hw'; obtain ⟨pq, hw''⟩ := hw'; subst hw''
                go_wp2
                go_ret
                exact ⟨ret_str (by rw [← HT.out]; simp), below_grown HB2.out HB2.out.size _⟩
        · have hp8' : ¬ (p : Int) + n ≤ 8 := by omega
          have HNN : Hid (∀ n' a', n - 1 < n' → a' + n' ≤ 8 → winB z a' n' = false) := fun n' a' h h' => by
            by_cases e : n' = n
            · subst e; exact hno2.out a' (by omega)
            · exact hno.out n' a' (by omega) h'
          go_wp2
          go_roundw
          case rel => exact ⟨n - 1, by omega, by omega, by go_num, HB1.out, hsz1, HV1.out, HNN.out⟩
          case measure => simp [intOf]; omega
    · obtain rfl : n = 1 := by omega
      have HT := Lib.hid (HLAST.out hno.out)
      have HA := Lib.hid (HPT.out 0 8 (by omega) (by omega))
      generalize writtenL ((G.take 8).drop 0) = X at *
      go_wp2_with (go_at_call 98; refine (HA.out _).mono ?_; rintro e w1 ⟨rfl, hb1⟩; obtain ⟨p1, rfl⟩ := grown_of hb1; clear hb1)
      go_ret
      exact ⟨ret_str HT.out, below_grown HB.out HB.out.size _⟩
end Go.Proofs.YtamkmfkkhgkllaaGreatDoor
