/- The walk of the statement HostOrders. -/
import Derived.Test.YtamkmfkkhgkllaaDoorHostAlive
namespace Go.Proofs.YtamkmfkkhgkllaaDoor
open Go Go.RowKit
set_option maxRecDepth 20000
set_option linter.unusedSimpArgs false
set_option linter.unusedVariables false

theorem nameH_len (n : List UInt8) : (nameH n).name.length ≤ 253 := by
  unfold nameH
  split
  · assumption
  · exact Nat.zero_le _
theorem addrOk_name (k : Int) (a : GAddr) (ok : Bool) : (addrOk k a ok).name.length ≤ 253 := by
  unfold addrOk
  split
  · split
    · exact Nat.zero_le _
    · exact Nat.zero_le _
  · exact Nat.zero_le _
theorem parseH_len (s : List UInt8) : (parseH s).name.length ≤ 253 := by
  cases h6 : six s
  · cases hD : lastD s
    · cases hB : nameB s
      · rw [(parse_none h6 hD hB).1]; exact Nat.zero_le _
      · rw [(parse_name h6 hD hB).1]; exact nameH_len _
    · rw [(parse_four h6 hD).1]; exact addrOk_name _ _ _
  · rw [(parse_six h6).1]; exact addrOk_name _ _ _
theorem tailH_len (h : GHost) (n : Int) : (tailH h n).name.length ≤ 253 := by
  unfold tailH
  split
  · exact nameH_len _
  · exact Nat.zero_le _
set_option maxRecDepth 100000 in
set_option maxHeartbeats 2000000 in
theorem hostOrders_law (l : List UInt8) (hl : l.length ≤ maxLen) (a b : Int) (ha : (Lit.int .i64 a).wf = true) (hb : (Lit.int .i64 b).wf = true) (m : Int) (w : World) (hm : HasMax m w) (htz : HasTz w) (hd : HasDec w) :
    Calls Tryd.prog 10 #[.string ⟨l.toArray⟩, .int .i64 a, .int .i64 b] w fun e w' => e = .returned (.bool true) ∧ Below w.heap.size w w' := by
  unfold maxLen at hl
  by_cases h1 : 600 < l.length
  · go_enter Tryd.func10, Tryd.ntmps10
    go_wp2_with (go_at_call 24; refine (hostAlive_any m _ (by repeat (first | exact hm | apply HasMax.grown | apply HasMax.alloc | apply HasMax.drew)) (by repeat (first | exact htz | apply HasTz.grown | apply HasTz.alloc | apply HasTz.drew)) (by repeat (first | exact hd | apply HasDec.grown | apply HasDec.alloc | apply HasDec.drew))).mono ?_; rintro e w1 ⟨rfl, hb1⟩; obtain ⟨p1, rfl⟩ := grown_of hb1; clear hb1)
    go_ret
    exact ⟨rfl, (by repeat (first | exact Below.refl _ _ | assumption | refine below_grown ?_ (by first | omega | (simp [go_sem]; done) | (simp [go_sem] <;> omega)) _ | refine Below.alloc ?_ (by first | omega | (simp [go_sem]; done) | (simp [go_sem] <;> omega)) _ | refine below_bytesW ?_ (by first | omega | (simp [go_sem]; done) | (simp [go_sem] <;> omega)) _ | refine Below.drew ?_ | refine below_drewN ?_ _))⟩
  · have HP : Hid (∀ w, HasMax m w → Calls Tryd.prog 23 #[.string ⟨l.toArray⟩] w fun e w' => e = .returned (.tuple #[.agg (hostC (parseH l)), .int .i64 (parseE l)]) ∧ Below w.heap.size w w') := fun w hm => parse_any l (by omega) m w hm
    have hl1 := parseH_len l
    generalize parseH l = H at *
    generalize parseE l = E at *
    have hla := tailH_len H a
    have hlb := tailH_len H b
    have HTA : Hid (∀ w, HasMax m w → HasTz w → HasDec w → Calls Tryd.prog 25 #[.agg (hostC H), .int .i64 a] w fun e w' => e = .returned (.tuple #[.agg (hostC (tailH H a)), .bool (tailOk H a)]) ∧ Below w.heap.size w w') := fun w x y z => tail_any H a (by omega) m w x y z
    have HTB : Hid (∀ w, HasMax m w → HasTz w → HasDec w → Calls Tryd.prog 25 #[.agg (hostC H), .int .i64 b] w fun e w' => e = .returned (.tuple #[.agg (hostC (tailH H b)), .bool (tailOk H b)]) ∧ Below w.heap.size w w') := fun w x y z => tail_any H b (by omega) m w x y z
    have HU0 : Hid (∀ w, HasMax m w → HasTz w → HasDec w → Calls Tryd.prog 26 #[.agg (hostC H), .agg (hostC H)] w fun e w' => e = .returned (.bool false) ∧ Below w.heap.size w w') := fun w x y z => by
      have := under_any H H (by omega) (by omega) m w x y z
      rwa [under_self] at this
    have HU1 : Hid (∀ w, HasMax m w → HasTz w → HasDec w → Calls Tryd.prog 26 #[.agg (hostC H), .agg (hostC (tailH H a))] w fun e w' => e = .returned (.bool (underB H (tailH H a))) ∧ Below w.heap.size w w') := fun w x y z => under_any H (tailH H a) (by omega) (by omega) m w x y z
    have HU2 : Hid (∀ w, HasMax m w → HasTz w → HasDec w → Calls Tryd.prog 26 #[.agg (hostC (tailH H a)), .agg (hostC (tailH H b))] w fun e w' => e = .returned (.bool (underB (tailH H a) (tailH H b))) ∧ Below w.heap.size w w') := fun w x y z => under_any (tailH H a) (tailH H b) (by omega) (by omega) m w x y z
    have HLH : Hid (∀ w, HasMax m w → HasTz w → HasDec w → Calls Tryd.prog 27 #[.agg (hostC H)] w (Gives strCod (labelsL H) w)) := fun w x y z => labels_any H (by omega) m w x y z
    have HLD : Hid (∀ w, HasMax m w → HasTz w → HasDec w → Calls Tryd.prog 27 #[.agg (hostC (tailH H a))] w (Gives strCod (labelsL (tailH H a)) w)) := fun w x y z => labels_any (tailH H a) (by omega) m w x y z
    have HPL : Hid (tailOk H a = true → tailOk H b = true → underB H (tailH H a) = decide (a < (labelsL H).length) ∧ underB (tailH H a) (tailH H b) = decide (b < a) ∧ hostEq (tailH H b) (tailH H a) = (a == b) ∧ ((labelsL (tailH H a)).length : Int) = a) := fun x y => orders_plain x y
    generalize underB H (tailH H a) = u1 at *
    generalize underB (tailH H a) (tailH H b) = u2 at *
    generalize tailH H a = A at *
    generalize tailH H b = B at *
    generalize labelsL H = LH at *
    generalize labelsL A = LA at *
    generalize tailOk H a = oa at *
    generalize tailOk H b = ob at *
    clear hl1 hla hlb hl ha hb
    cases oa
    · go_enter Tryd.func10, Tryd.ntmps10
      go_wp2_with (first
        | (go_at_call 24; refine (hostAlive_any m _ (by repeat (first | exact hm | apply HasMax.grown | apply HasMax.alloc | apply HasMax.drew)) (by repeat (first | exact htz | apply HasTz.grown | apply HasTz.alloc | apply HasTz.drew)) (by repeat (first | exact hd | apply HasDec.grown | apply HasDec.alloc | apply HasDec.drew))).mono ?_; rintro e w1 ⟨rfl, hb1⟩; obtain ⟨p1, rfl⟩ := grown_of hb1; clear hb1)
        | (go_at_call 23; (with_reducible refine (HP.out _ (by repeat (first | exact hm | apply HasMax.grown | apply HasMax.alloc | apply HasMax.drew))).mono ?_); rintro e w1 ⟨rfl, hb1⟩; obtain ⟨p1, rfl⟩ := grown_of hb1; clear hb1)
        | (go_at_call 25; (with_reducible refine (HTA.out _ (by repeat (first | exact hm | apply HasMax.grown | apply HasMax.alloc | apply HasMax.drew)) (by repeat (first | exact htz | apply HasTz.grown | apply HasTz.alloc | apply HasTz.drew)) (by repeat (first | exact hd | apply HasDec.grown | apply HasDec.alloc | apply HasDec.drew))).mono ?_); rintro e w1 ⟨rfl, hb1⟩; obtain ⟨p1, rfl⟩ := grown_of hb1; clear hb1)
        | (go_at_call 25; (with_reducible refine (HTB.out _ (by repeat (first | exact hm | apply HasMax.grown | apply HasMax.alloc | apply HasMax.drew)) (by repeat (first | exact htz | apply HasTz.grown | apply HasTz.alloc | apply HasTz.drew)) (by repeat (first | exact hd | apply HasDec.grown | apply HasDec.alloc | apply HasDec.drew))).mono ?_); rintro e w1 ⟨rfl, hb1⟩; obtain ⟨p1, rfl⟩ := grown_of hb1; clear hb1)
        | (go_at_call 26; (with_reducible refine (HU0.out _ (by repeat (first | exact hm | apply HasMax.grown | apply HasMax.alloc | apply HasMax.drew)) (by repeat (first | exact htz | apply HasTz.grown | apply HasTz.alloc | apply HasTz.drew)) (by repeat (first | exact hd | apply HasDec.grown | apply HasDec.alloc | apply HasDec.drew))).mono ?_); rintro e w1 ⟨rfl, hb1⟩; obtain ⟨p1, rfl⟩ := grown_of hb1; clear hb1))
      go_ret
      exact ⟨rfl, (by repeat (first | exact Below.refl _ _ | assumption | refine below_grown ?_ (by first | omega | (simp [go_sem]; done) | (simp [go_sem] <;> omega)) _ | refine Below.alloc ?_ (by first | omega | (simp [go_sem]; done) | (simp [go_sem] <;> omega)) _ | refine below_bytesW ?_ (by first | omega | (simp [go_sem]; done) | (simp [go_sem] <;> omega)) _ | refine Below.drew ?_ | refine below_drewN ?_ _))⟩
    · cases ob
      · go_enter Tryd.func10, Tryd.ntmps10
        go_wp2_with (first
          | (go_at_call 24; refine (hostAlive_any m _ (by repeat (first | exact hm | apply HasMax.grown | apply HasMax.alloc | apply HasMax.drew)) (by repeat (first | exact htz | apply HasTz.grown | apply HasTz.alloc | apply HasTz.drew)) (by repeat (first | exact hd | apply HasDec.grown | apply HasDec.alloc | apply HasDec.drew))).mono ?_; rintro e w1 ⟨rfl, hb1⟩; obtain ⟨p1, rfl⟩ := grown_of hb1; clear hb1)
          | (go_at_call 23; (with_reducible refine (HP.out _ (by repeat (first | exact hm | apply HasMax.grown | apply HasMax.alloc | apply HasMax.drew))).mono ?_); rintro e w1 ⟨rfl, hb1⟩; obtain ⟨p1, rfl⟩ := grown_of hb1; clear hb1)
          | (go_at_call 25; (with_reducible refine (HTA.out _ (by repeat (first | exact hm | apply HasMax.grown | apply HasMax.alloc | apply HasMax.drew)) (by repeat (first | exact htz | apply HasTz.grown | apply HasTz.alloc | apply HasTz.drew)) (by repeat (first | exact hd | apply HasDec.grown | apply HasDec.alloc | apply HasDec.drew))).mono ?_); rintro e w1 ⟨rfl, hb1⟩; obtain ⟨p1, rfl⟩ := grown_of hb1; clear hb1)
          | (go_at_call 25; (with_reducible refine (HTB.out _ (by repeat (first | exact hm | apply HasMax.grown | apply HasMax.alloc | apply HasMax.drew)) (by repeat (first | exact htz | apply HasTz.grown | apply HasTz.alloc | apply HasTz.drew)) (by repeat (first | exact hd | apply HasDec.grown | apply HasDec.alloc | apply HasDec.drew))).mono ?_); rintro e w1 ⟨rfl, hb1⟩; obtain ⟨p1, rfl⟩ := grown_of hb1; clear hb1)
          | (go_at_call 26; (with_reducible refine (HU0.out _ (by repeat (first | exact hm | apply HasMax.grown | apply HasMax.alloc | apply HasMax.drew)) (by repeat (first | exact htz | apply HasTz.grown | apply HasTz.alloc | apply HasTz.drew)) (by repeat (first | exact hd | apply HasDec.grown | apply HasDec.alloc | apply HasDec.drew))).mono ?_); rintro e w1 ⟨rfl, hb1⟩; obtain ⟨p1, rfl⟩ := grown_of hb1; clear hb1))
        go_ret
        exact ⟨rfl, (by repeat (first | exact Below.refl _ _ | assumption | refine below_grown ?_ (by first | omega | (simp [go_sem]; done) | (simp [go_sem] <;> omega)) _ | refine Below.alloc ?_ (by first | omega | (simp [go_sem]; done) | (simp [go_sem] <;> omega)) _ | refine below_bytesW ?_ (by first | omega | (simp [go_sem]; done) | (simp [go_sem] <;> omega)) _ | refine Below.drew ?_ | refine below_drewN ?_ _))⟩
      · obtain ⟨rfl, rfl, e3, e4⟩ := HPL.out rfl rfl
        have hq : hostEq B A = (a == b) := e3
        clear HPL e3
        go_enter Tryd.func10, Tryd.ntmps10
        go_wp2_with (first
          | (go_at_call 24; refine (hostAlive_any m _ (by repeat (first | exact hm | apply HasMax.grown | apply HasMax.alloc | apply HasMax.drew)) (by repeat (first | exact htz | apply HasTz.grown | apply HasTz.alloc | apply HasTz.drew)) (by repeat (first | exact hd | apply HasDec.grown | apply HasDec.alloc | apply HasDec.drew))).mono ?_; rintro e w1 ⟨rfl, hb1⟩; obtain ⟨p1, rfl⟩ := grown_of hb1; clear hb1)
          | (go_at_call 23; (with_reducible refine (HP.out _ (by repeat (first | exact hm | apply HasMax.grown | apply HasMax.alloc | apply HasMax.drew))).mono ?_); rintro e w1 ⟨rfl, hb1⟩; obtain ⟨p1, rfl⟩ := grown_of hb1; clear hb1)
          | (go_at_call 25; (with_reducible refine (HTA.out _ (by repeat (first | exact hm | apply HasMax.grown | apply HasMax.alloc | apply HasMax.drew)) (by repeat (first | exact htz | apply HasTz.grown | apply HasTz.alloc | apply HasTz.drew)) (by repeat (first | exact hd | apply HasDec.grown | apply HasDec.alloc | apply HasDec.drew))).mono ?_); rintro e w1 ⟨rfl, hb1⟩; obtain ⟨p1, rfl⟩ := grown_of hb1; clear hb1)
          | (go_at_call 25; (with_reducible refine (HTB.out _ (by repeat (first | exact hm | apply HasMax.grown | apply HasMax.alloc | apply HasMax.drew)) (by repeat (first | exact htz | apply HasTz.grown | apply HasTz.alloc | apply HasTz.drew)) (by repeat (first | exact hd | apply HasDec.grown | apply HasDec.alloc | apply HasDec.drew))).mono ?_); rintro e w1 ⟨rfl, hb1⟩; obtain ⟨p1, rfl⟩ := grown_of hb1; clear hb1)
          | (go_at_call 26; (with_reducible refine (HU0.out _ (by repeat (first | exact hm | apply HasMax.grown | apply HasMax.alloc | apply HasMax.drew)) (by repeat (first | exact htz | apply HasTz.grown | apply HasTz.alloc | apply HasTz.drew)) (by repeat (first | exact hd | apply HasDec.grown | apply HasDec.alloc | apply HasDec.drew))).mono ?_); rintro e w1 ⟨rfl, hb1⟩; obtain ⟨p1, rfl⟩ := grown_of hb1; clear hb1)
          | (go_at_call 26; (with_reducible refine (HU1.out _ (by repeat (first | exact hm | apply HasMax.grown | apply HasMax.alloc | apply HasMax.drew)) (by repeat (first | exact htz | apply HasTz.grown | apply HasTz.alloc | apply HasTz.drew)) (by repeat (first | exact hd | apply HasDec.grown | apply HasDec.alloc | apply HasDec.drew))).mono ?_); rintro e w1 ⟨rfl, hb1⟩; obtain ⟨p1, rfl⟩ := grown_of hb1; clear hb1)
          | (go_at_call 26; (with_reducible refine (HU2.out _ (by repeat (first | exact hm | apply HasMax.grown | apply HasMax.alloc | apply HasMax.drew)) (by repeat (first | exact htz | apply HasTz.grown | apply HasTz.alloc | apply HasTz.drew)) (by repeat (first | exact hd | apply HasDec.grown | apply HasDec.alloc | apply HasDec.drew))).mono ?_); rintro e w1 ⟨rfl, hb1⟩; obtain ⟨p1, rfl⟩ := grown_of hb1; clear hb1)
          | (go_at_call 27; (with_reducible refine (HLH.out _ (by repeat (first | exact hm | apply HasMax.grown | apply HasMax.alloc | apply HasMax.drew)) (by repeat (first | exact htz | apply HasTz.grown | apply HasTz.alloc | apply HasTz.drew)) (by repeat (first | exact hd | apply HasDec.grown | apply HasDec.alloc | apply HasDec.drew))).mono ?_); intro e w1 hg; obtain ⟨a1, c1, rfl, hc1, hb1, hl1⟩ := hg; obtain ⟨p1, rfl⟩ := grown_of hb1; clear hb1)
          | (go_at_call 27; (with_reducible refine (HLD.out _ (by repeat (first | exact hm | apply HasMax.grown | apply HasMax.alloc | apply HasMax.drew)) (by repeat (first | exact htz | apply HasTz.grown | apply HasTz.alloc | apply HasTz.drew)) (by repeat (first | exact hd | apply HasDec.grown | apply HasDec.alloc | apply HasDec.drew))).mono ?_); intro e w1 hg; obtain ⟨a1, c1, rfl, hc1, hb1, hl1⟩ := hg; obtain ⟨p1, rfl⟩ := grown_of hb1; clear hb1))
        go_ret
        exact ⟨by first | rfl | exact ret_bool (by simp), (by repeat (first | exact Below.refl _ _ | assumption | refine below_grown ?_ (by first | omega | (simp [go_sem]; done) | (simp [go_sem] <;> omega)) _ | refine Below.alloc ?_ (by first | omega | (simp [go_sem]; done) | (simp [go_sem] <;> omega)) _ | refine below_bytesW ?_ (by first | omega | (simp [go_sem]; done) | (simp [go_sem] <;> omega)) _ | refine Below.drew ?_ | refine below_drewN ?_ _))⟩
end Go.Proofs.YtamkmfkkhgkllaaDoor
