/- Places and kept cookies as data: how they lie in cells, places as keys. -/
import Derived.Test.YtaondmaebgicgaaCook
import Derived.Test.YtaondmaebgicgaaCod
import Derived.Test.YtaondmaebgicgaaVar
import Derived.Test.YtaondmaebgicgaaMapF
import Derived.DeepKeys4
namespace Go.Proofs.Ytaondmaebgicgaa
open Go Go.RowKit
set_option maxRecDepth 20000
set_option linter.unusedSimpArgs false
set_option linter.unusedVariables false

/-! ### places -/
def placeR (c : GCookie) : List Value := [.string ⟨c.name.toArray⟩] ++ (hostL c.host ++ [.bool c.only, .string ⟨c.path.toArray⟩])
def placeV (c : GCookie) : Array Value := (placeR c).toArray
theorem placeR_length (c : GCookie) : (placeR c).length = 21 := by simp [placeR, hostL_length]
@[go_sem] theorem placeV_size (c : GCookie) : (placeV c).size = 21 := by simp [placeV, placeR_length]
theorem place_one (c : GCookie) : ∀ v ∈ placeR c, v.oneCell' = true := by
  intro v hv
  simp only [placeR, List.mem_append, List.mem_cons, List.not_mem_nil, or_false] at hv
  rcases hv with rfl | hv | rfl | rfl
  · rfl
  · exact host_one _ v hv
  all_goals rfl
@[go_sem] theorem placeV_one (c : GCookie) : allOne (placeV c) = true := allOne_of (place_one c)
@[go_sem] theorem agg_place : isAggT Try.prog 62 = true := by kernel_rfl
@[go_sem] theorem cellsOf_place : Try.prog.cellsOf 62 = 21 := by kernel_rfl
def placeK (c : GCookie) : List Lit := [.string c.name] ++ (hostK c.host ++ ([.bool c.only] ++ ([.string c.path] ++ [])))
theorem keyLits_place (D : Nat) (c : GCookie) : Try.prog.keyLits (D + 4) 62 (placeR c) = some (placeK c) := by
  have h1 := c.hname
  have h2 := c.hpath
  have e0 : (placeR c).take 1 = [.string ⟨c.name.toArray⟩] := by simp [placeR]
  have e1 : ((placeR c).tail).take 18 = hostL c.host := by simp [placeR, hostL_length]
  have e2 : ((placeR c).drop 19).take 1 = [.bool c.only] := by simp [placeR, hostL_length]
  have hd : ∀ k, 18 ≤ k → (hostL c.host).drop k = [] := fun k hk => List.drop_of_length_le (by rw [hostL_length]; exact hk)
  have e3 : ((placeR c).drop 20).take 1 = [.string ⟨c.path.toArray⟩] := by simp [placeR, hostL_length, List.drop_append, hd]
  unfold Program.keyLits
  rw [Try.underlying62]
  simp [cellsOf_place, placeR_length, cellsOf_str, cellsOf_int, cellsOf_bool, cellsOf_host, e0, e1, e2, e3, keyLits_host, keyLits_str, keyLits_bool, keyLits_i64, h1, h2, placeK]
def placeLit (c : GCookie) : Lit := .string (keyBytes (placeK c))
theorem placeKey (c : GCookie) : keyOf Try.prog 62 (.agg (placeV c)) = some (placeLit c) := by
  have hl : Try.prog.keyLits (Try.prog.types.size + 1) 62 (placeR c) = some (placeK c) := by
    have : Try.prog.types.size + 1 = (Try.prog.types.size - 3) + 4 := by kernel_rfl
    rw [this]
    exact keyLits_place _ c
  have hf : (Value.agg (placeV c)).formed Try.prog 62 = true := by simp [placeV, Value.formed, Try.underlying62, cellsOf_place, placeR_length]
  unfold keyOf
  rw [Try.underlying62]
  dsimp only
  have hkt : Try.prog.keyType 62 = true := by kernel_rfl
  rw [hkt, Bool.true_and, if_pos hf]
  have hc : (Value.agg (placeV c)).cells.toList = placeR c := rfl
  rw [hc, hl]
  rfl
theorem placeWide : (match Try.prog.underlying 62 with | some (.array _ _) | some (.struct _) => true | _ => false) = true := by kernel_rfl
theorem placeLaw : Go.Maps.Keyed Try.prog 62 := Go.Maps.Keyed.of_law (deep_law_laid (m := 10) (by kernel_rfl) (by omega) (of_decide_eq_true (by kernel_rfl)) (by kernel_rfl) placeWide)
theorem siteLaw : Go.Maps.Keyed Try.prog 9 := Go.Maps.string_keyed Try.underlying9
theorem allTy : Try.prog.underlying 54 = some (.map 62 59) := by kernel_rfl
theorem sitesTy : Try.prog.underlying 55 = some (.map 9 3) := by kernel_rfl
def samePl (c d : GCookie) : Bool := c.name == d.name && (hostEq c.host d.host && (c.only == d.only && c.path == d.path))
theorem samePl_iff {c d : GCookie} : samePl c d = true ↔ c.name = d.name ∧ c.host = d.host ∧ c.only = d.only ∧ c.path = d.path := by
  unfold samePl
  simp only [Bool.and_eq_true, beq_iff_eq, hostEq_iff]
theorem placeV_same {c d : GCookie} : placeV c = placeV d ↔ samePl c d = true := by
  rw [samePl_iff]
  constructor
  · intro h
    have h1 : placeR c = placeR d := by simpa [placeV] using h
    unfold placeR at h1
    simp only [List.singleton_append, List.cons.injEq, Value.string.injEq, ByteArray.mk.injEq] at h1
    obtain ⟨h2, h3⟩ := h1
    obtain ⟨h4, h5⟩ := List.append_inj h3 (by rw [hostL_length, hostL_length])
    simp only [List.cons.injEq, Value.bool.injEq, Value.string.injEq, ByteArray.mk.injEq, and_true] at h5
    have h6 : hostEq c.host d.host = true := by
      rw [hostEq_iff]
      unfold hostL at h4
      simp only [List.cons.injEq, Value.int.injEq, true_and, Value.string.injEq, ByteArray.mk.injEq] at h4
      obtain ⟨k1, k2, k3⟩ := h4
      refine host_ext k1 (by simpa using k2) ?_
      apply addr_ext
      unfold addrL at k3
      have := (List.map_inj_right (fun (a b : UInt8) (e : (Value.int .u8 (a.toNat : Int)) = .int .u8 (b.toNat : Int)) => by
        simp only [Value.int.injEq, true_and] at e
        exact UInt8.toNat_inj.1 (by omega))).1 k3
      exact this
    exact ⟨by simpa using h2, (hostEq_iff _ _).1 h6, h5.1, by simpa using h5.2⟩
  · rintro ⟨h1, h2, h3, h4⟩
    unfold placeV placeR
    rw [h1, h2, h3, h4]
theorem placeLit_same {c d : GCookie} : (placeLit c).sameKey (placeLit d) = samePl c d := by
  rw [Bool.eq_iff_iff]
  constructor
  · intro h
    have e := Go.WideAt.sameKey_eq h
    have h1 := placeKey c
    rw [e] at h1
    have h2 := placeLaw.inj h1 (placeKey d)
    exact placeV_same.1 (by simpa using h2)
  · intro h
    have h1 := placeV_same.2 h
    have h2 := placeKey c
    rw [h1, placeKey d] at h2
    have h3 : placeLit d = placeLit c := by simpa using h2
    rw [h3]
    exact Go.WideAt.sameKey_self (placeLaw.key (placeKey c))
/-! ### kept cookies -/
abbrev GKept := GCookie × List UInt8
def keptR (k : GKept) : List Value := cookieL k.1 ++ [.string ⟨k.2.toArray⟩]
def keptV (k : GKept) : Array Value := (keptR k).toArray
theorem keptR_length (k : GKept) : (keptR k).length = 30 := by simp [keptR, cookieL_length]
@[go_sem] theorem keptV_size (k : GKept) : (keptV k).size = 30 := by simp [keptV, keptR_length]
theorem kept_one (k : GKept) : ∀ v ∈ keptR k, v.oneCell' = true := by
  intro v hv
  simp only [keptR, List.mem_append, List.mem_cons, List.not_mem_nil, or_false] at hv
  rcases hv with hv | rfl
  · exact cookie_one _ v hv
  · rfl
@[go_sem] theorem keptV_one (k : GKept) : allOne (keptV k) = true := allOne_of (kept_one k)
@[go_sem] theorem agg_kept : isAggT Try.prog 59 = true := by kernel_rfl
@[go_sem] theorem cellsOf_kept : Try.prog.cellsOf 59 = 30 := by kernel_rfl
theorem kept_inj {k k' : GKept} (h : keptV k = keptV k') : cookieL k.1 = cookieL k'.1 ∧ k.2 = k'.2 := by
  have h1 : keptR k = keptR k' := by simpa [keptV] using h
  obtain ⟨h2, h3⟩ := List.append_inj h1 (by rw [cookieL_length, cookieL_length])
  exact ⟨h2, by simpa using h3⟩
end Go.Proofs.Ytaondmaebgicgaa
