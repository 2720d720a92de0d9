/- Cookies and requests as data: how they lie in cells, how values of their types are opened. -/
import Derived.Test.YtaondmaebgicgaaOpen
namespace Go.Proofs.Ytaondmaebgicgaa
open Go Go.RowKit
set_option maxRecDepth 20000
set_option linter.unusedSimpArgs false

structure GCookie where
  name : List UInt8
  value : List UInt8
  host : GHost
  only : Bool
  path : List UInt8
  secure : Bool
  httpOnly : Bool
  same : Int
  expires : Int
  born : Int
  used : Int
  seq : Int
  hname : name.length ≤ maxLen
  hvalue : value.length ≤ maxLen
  hpath : path.length ≤ maxLen
  hsame : (Lit.int .i64 same).wf = true
  hexp : (Lit.int .i64 expires).wf = true
  hborn : (Lit.int .i64 born).wf = true
  hused : (Lit.int .i64 used).wf = true
  hseq : (Lit.int .i64 seq).wf = true
def cookieL (c : GCookie) : List Value := [.string ⟨c.name.toArray⟩, .string ⟨c.value.toArray⟩] ++ (hostL c.host ++ [.bool c.only, .string ⟨c.path.toArray⟩, .bool c.secure, .bool c.httpOnly, .int .i64 c.same, .int .i64 c.expires, .int .i64 c.born, .int .i64 c.used, .int .i64 c.seq])
def cookieC (c : GCookie) : Array Value := (cookieL c).toArray
theorem cookieL_length (c : GCookie) : (cookieL c).length = 29 := by simp [cookieL, hostL_length]
theorem cookie_idx (c : GCookie) (i : Nat) (v : Value) (hi : 20 ≤ i) (h : [Value.bool c.only, .string ⟨c.path.toArray⟩, .bool c.secure, .bool c.httpOnly, .int .i64 c.same, .int .i64 c.expires, .int .i64 c.born, .int .i64 c.used, .int .i64 c.seq][i - 20]? = some v) : (cookieC c)[i]? = some v := by
  rw [cookieC, List.getElem?_toArray, cookieL, List.getElem?_append_right (by simp; omega), List.getElem?_append_right (by rw [hostL_length]; simp; omega), hostL_length, ← h]
  congr 1
@[go_sem] theorem cookieC_size (c : GCookie) : (cookieC c).size = 29 := by simp [cookieC, cookieL_length]
@[go_sem ↓ high] theorem cookieC_0 (c : GCookie) : (cookieC c)[0]? = some (.string ⟨c.name.toArray⟩) := by simp [cookieC, cookieL]
@[go_sem ↓ high] theorem cookieC_1 (c : GCookie) : (cookieC c)[1]? = some (.string ⟨c.value.toArray⟩) := by simp [cookieC, cookieL]
@[go_sem ↓ high] theorem cookieC_20 (c : GCookie) : (cookieC c)[20]? = some (.bool c.only) := cookie_idx c 20 _ (by decide) rfl
@[go_sem ↓ high] theorem cookieC_21 (c : GCookie) : (cookieC c)[21]? = some (.string ⟨c.path.toArray⟩) := cookie_idx c 21 _ (by decide) rfl
@[go_sem ↓ high] theorem cookieC_22 (c : GCookie) : (cookieC c)[22]? = some (.bool c.secure) := cookie_idx c 22 _ (by decide) rfl
@[go_sem ↓ high] theorem cookieC_23 (c : GCookie) : (cookieC c)[23]? = some (.bool c.httpOnly) := cookie_idx c 23 _ (by decide) rfl
@[go_sem ↓ high] theorem cookieC_24 (c : GCookie) : (cookieC c)[24]? = some (.int .i64 c.same) := cookie_idx c 24 _ (by decide) rfl
@[go_sem ↓ high] theorem cookieC_25 (c : GCookie) : (cookieC c)[25]? = some (.int .i64 c.expires) := cookie_idx c 25 _ (by decide) rfl
@[go_sem ↓ high] theorem cookieC_26 (c : GCookie) : (cookieC c)[26]? = some (.int .i64 c.born) := cookie_idx c 26 _ (by decide) rfl
@[go_sem ↓ high] theorem cookieC_27 (c : GCookie) : (cookieC c)[27]? = some (.int .i64 c.used) := cookie_idx c 27 _ (by decide) rfl
@[go_sem ↓ high] theorem cookieC_28 (c : GCookie) : (cookieC c)[28]? = some (.int .i64 c.seq) := cookie_idx c 28 _ (by decide) rfl
@[go_sem] theorem cookieC_all (c : GCookie) : (cookieC c).extract 0 29 = cookieC c := by
  have := cookieC_size c
  rw [← this]; simp
@[go_sem] theorem cookieC_host (c : GCookie) : (cookieC c).extract 2 20 = hostC c.host := extract_mid _ _ _ 2 20 rfl (by rw [hostL_length])
section
variable {w : World} {r : Reach} {base : Nat}
@[go_sem] theorem cellsOf_cookie : Try.prog.cellsOf 31 = 29 := by kernel_rfl
def cookieT : List TypeId := [9, 9] ++ (hostT ++ [4, 9, 4, 4, 3, 2, 2, 2, 3])
theorem fits_cookie {vs : List Value} (h : RowFits Try.prog w r base cookieT vs) : ∃ c : GCookie, vs = cookieL c := by
  obtain ⟨v0, vs, rfl, h0, h⟩ := rowFits_cons h
  obtain ⟨v1, vs, rfl, h1, h⟩ := rowFits_cons h
  obtain ⟨vh, vs, rfl, hh, h⟩ := rowFits_split (ts := hostT) h
  obtain ⟨v2, vs, rfl, h2, h⟩ := rowFits_cons h
  obtain ⟨v3, vs, rfl, h3, h⟩ := rowFits_cons h
  obtain ⟨v4, vs, rfl, h4, h⟩ := rowFits_cons h
  obtain ⟨v5, vs, rfl, h5, h⟩ := rowFits_cons h
  obtain ⟨v6, vs, rfl, h6, h⟩ := rowFits_cons h
  obtain ⟨v7, vs, rfl, h7, h⟩ := rowFits_cons h
  obtain ⟨v8, vs, rfl, h8, h⟩ := rowFits_cons h
  obtain ⟨v9, vs, rfl, h9, h⟩ := rowFits_cons h
  obtain ⟨v10, vs, rfl, h10, h⟩ := rowFits_cons h
  obtain rfl := rowFits_nil h
  obtain ⟨nm, rfl, g0⟩ := cell_str Try.underlying9 h0
  obtain ⟨va, rfl, g1⟩ := cell_str Try.underlying9 h1
  obtain ⟨ho, rfl⟩ := fits_host hh
  obtain ⟨on, rfl⟩ := cell_bool Try.underlying4 h2
  obtain ⟨pa, rfl, g3⟩ := cell_str Try.underlying9 h3
  obtain ⟨se, rfl⟩ := cell_bool Try.underlying4 h4
  obtain ⟨ht, rfl⟩ := cell_bool Try.underlying4 h5
  obtain ⟨sa, rfl, g6⟩ := cell_int Try.underlying3 h6
  obtain ⟨ex, rfl, g7⟩ := cell_int Try.underlying2 h7
  obtain ⟨bo, rfl, g8⟩ := cell_int Try.underlying2 h8
  obtain ⟨us, rfl, g9⟩ := cell_int Try.underlying2 h9
  obtain ⟨sq, rfl, g10⟩ := cell_int Try.underlying3 h10
  exact ⟨⟨nm, va, ho, on, pa, se, ht, sa, ex, bo, us, sq, g0, g1, g3, g6, g7, g8, g9, g10⟩, rfl⟩
theorem open_cookie {v : Value} (h : Value.okWide Try.prog w r base 31 v) : ∃ c : GCookie, v = .agg (cookieC c) := by
  unfold Value.okWide at h
  rw [Try.underlying31] at h
  obtain ⟨cs, rfl, hs, hr⟩ := h
  obtain ⟨c, hc⟩ := fits_cookie (rowFits_row (ts := cookieT) (by kernel_rfl) (by rw [hs, cellsOf_cookie]; rfl) hr)
  exact ⟨c, by rw [cookieC, ← hc]⟩
end
@[go_sem] theorem cookie_name_le (c : GCookie) : c.name.length ≤ maxLen := c.hname
@[go_sem] theorem cookie_path_le (c : GCookie) : c.path.length ≤ maxLen := c.hpath
@[go_sem] theorem agg_cookie : isAggT Try.prog 31 = true := by kernel_rfl
theorem cookie_one (c : GCookie) : ∀ v ∈ cookieL c, v.oneCell' = true := by
  intro v hv
  simp only [cookieL, List.mem_append, List.mem_cons, List.not_mem_nil, or_false] at hv
  rcases hv with (rfl | rfl) | hv | rfl | rfl | rfl | rfl | rfl | rfl | rfl | rfl | rfl
  · rfl
  · rfl
  · exact host_one _ v hv
  all_goals rfl
@[go_sem] theorem cookieC_one (c : GCookie) : allOne (cookieC c) = true := allOne_of (cookie_one c)
/-! ### requests -/
structure GRequest where
  secure : Bool
  host : GHost
  path : List UInt8
  cross : Int
  hpath : path.length ≤ maxLen
  hcross : (Lit.int .i64 cross).wf = true
def requestL (r : GRequest) : List Value := [.bool r.secure] ++ (hostL r.host ++ [.string ⟨r.path.toArray⟩, .int .i64 r.cross])
def requestC (r : GRequest) : Array Value := (requestL r).toArray
theorem requestL_length (r : GRequest) : (requestL r).length = 21 := by simp [requestL, hostL_length]
@[go_sem] theorem requestC_size (r : GRequest) : (requestC r).size = 21 := by simp [requestC, requestL_length]
theorem request_idx (r : GRequest) (i : Nat) (v : Value) (hi : 19 ≤ i) (h : [Value.string ⟨r.path.toArray⟩, .int .i64 r.cross][i - 19]? = some v) : (requestC r)[i]? = some v := by
  rw [requestC, List.getElem?_toArray, requestL, List.getElem?_append_right (by simp; omega), List.getElem?_append_right (by rw [hostL_length]; simp; omega), hostL_length, ← h]
  congr 1
@[go_sem ↓ high] theorem requestC_0 (r : GRequest) : (requestC r)[0]? = some (.bool r.secure) := by simp [requestC, requestL]
@[go_sem ↓ high] theorem requestC_19 (r : GRequest) : (requestC r)[19]? = some (.string ⟨r.path.toArray⟩) := request_idx r 19 _ (by decide) rfl
@[go_sem ↓ high] theorem requestC_20 (r : GRequest) : (requestC r)[20]? = some (.int .i64 r.cross) := request_idx r 20 _ (by decide) rfl
@[go_sem] theorem requestC_all (r : GRequest) : (requestC r).extract 0 21 = requestC r := by
  have := requestC_size r
  rw [← this]; simp
@[go_sem] theorem requestC_host (r : GRequest) : (requestC r).extract 1 19 = hostC r.host := extract_mid _ _ _ 1 19 rfl (by rw [hostL_length])
theorem request_one (r : GRequest) : ∀ v ∈ requestL r, v.oneCell' = true := by
  intro v hv
  simp only [requestL, List.mem_append, List.mem_cons, List.not_mem_nil, or_false] at hv
  rcases hv with rfl | hv | rfl | rfl
  · rfl
  · exact host_one _ v hv
  all_goals rfl
@[go_sem] theorem requestC_one (r : GRequest) : allOne (requestC r) = true := allOne_of (request_one r)
section
variable {w : World} {r : Reach} {base : Nat}
def requestT : List TypeId := [4] ++ (hostT ++ [9, 3])
theorem fits_request {vs : List Value} (h : RowFits Try.prog w r base requestT vs) : ∃ c : GRequest, vs = requestL c := by
  obtain ⟨v0, vs, rfl, h0, h⟩ := rowFits_cons h
  obtain ⟨vh, vs, rfl, hh, h⟩ := rowFits_split (ts := hostT) h
  obtain ⟨v2, vs, rfl, h2, h⟩ := rowFits_cons h
  obtain ⟨v3, vs, rfl, h3, h⟩ := rowFits_cons h
  obtain rfl := rowFits_nil h
  obtain ⟨se, rfl⟩ := cell_bool Try.underlying4 h0
  obtain ⟨ho, rfl⟩ := fits_host hh
  obtain ⟨pa, rfl, g2⟩ := cell_str Try.underlying9 h2
  obtain ⟨cr, rfl, g3⟩ := cell_int Try.underlying3 h3
  exact ⟨⟨se, ho, pa, cr, g2, g3⟩, rfl⟩
end
end Go.Proofs.Ytaondmaebgicgaa
