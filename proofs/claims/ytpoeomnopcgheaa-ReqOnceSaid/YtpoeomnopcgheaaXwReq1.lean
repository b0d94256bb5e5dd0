import Derived.Test.YtpoeomnopcgheaaXwReqM
import Derived.Test.YtpoeomnopcgheaaXwSl
namespace Go.Proofs.Xw
open Go.RowKit Go.Xw

def plP (r : Rq) : List Int := r.place.map (· + 1) ++ List.replicate (8 - r.place.length) 0
def vlP (r : Rq) : List Int := r.vals ++ List.replicate (8 - r.vals.length) 0
def rqCells (r : Rq) : List Value := .int .i64 r.kind :: (intsV (plP r) ++ u64V (vlP r))
def encRq (r : Rq) : Value := .agg (rqCells r).toArray

theorem plP_len {r : Rq} (h : r.wf) : (plP r).length = 8 := by have := h.hi; simp [plP]; omega
theorem vlP_len {r : Rq} (h : r.wf) : (vlP r).length = 8 := by have := h.hi; have := h.len; simp [vlP]; omega
theorem rqCells_len {r : Rq} (h : r.wf) : (rqCells r).length = 17 := by simp [rqCells, intsV, u64V, plP_len h, vlP_len h]
theorem rqCells_one (r : Rq) : (rqCells r).toArray.all (·.oneCell') = true := all_oneCell_toArray (by
  intro v hv
  simp only [rqCells, List.mem_cons, List.mem_append] at hv
  rcases hv with rfl | hv | hv
  · rfl
  · exact intsV_one _ v hv
  · exact u64V_one _ v hv)
theorem plP_get {r : Rq} {i : Nat} (hi : i < r.place.length) : (plP r)[i]? = some (r.place[i] + 1) := by
  simp [plP, List.getElem?_append, hi]
theorem plP_pos {r : Rq} (h : r.wf) {i : Nat} (hi : i < r.place.length) : 1 ≤ r.place[i] + 1 := by
  have := h.code r.place[i] (List.getElem_mem hi); omega
theorem idx_plP {r : Rq} (h : r.wf) : idxI (plP r) 0 = if r.place.length = 8 then (-1 : Int) else (r.place.length : Int) := by
  split
  · rename_i e
    refine idxI_none ?_
    intro x hx
    simp [plP, e] at hx
    obtain ⟨y, hy, rfl⟩ := hx
    have := h.code y hy; omega
  · rename_i e
    have := h.hi
    refine idxI_at ?_ ?_
    · rw [plP, List.getElem?_append_right (by simp), List.length_map, Nat.sub_self, List.getElem?_replicate, if_pos (by omega)]
    · intro j hj
      rw [plP_get hj]
      have := plP_pos h hj
      simp; omega
theorem mem_plP {r : Rq} (c : Int) (hc : c ≠ 0) : c ∈ plP r ↔ c - 1 ∈ r.place := by
  simp only [plP, List.mem_append, List.mem_map, List.mem_replicate]
  constructor
  · rintro (⟨y, hy, e⟩ | ⟨_, e⟩)
    · rw [show c - 1 = y by omega]; exact hy
    · exact absurd e hc
  · intro hm; exact .inl ⟨c - 1, hm, by omega⟩

theorem size134 : (Try.prog.info? 134).map (·.size) = some 17 := by kernel_rfl
theorem zero134 (w : World) : (zeroValue 134).run Try.prog w = .ok (encRq ⟨0, [], []⟩) w := by kernel_rfl
theorem size132 : (Try.prog.info? 132).map (·.size) = some 8 := by kernel_rfl

/-- A block that holds a request's cells: where its places and its values lie. -/
theorem range_pl {w : World} {b : Nat} {r : Rq} {E : TypeId} {fr : Nat × Nat} (h : w.heap[b]? = some (.cells (rqCells r).toArray E fr)) : w.rangeAt b 1 (intsV (plP r)) := by
  intro j v hv
  refine cell_of h ?_
  have hj := (List.getElem?_eq_some_iff.1 hv).1
  simp only [List.getElem?_toArray, rqCells]
  rw [show 1 + j = j + 1 by omega, List.getElem?_cons_succ, List.getElem?_append_left hj]; exact hv
theorem range_vl {w : World} {b : Nat} {r : Rq} (hr : r.wf) {E : TypeId} {fr : Nat × Nat} (h : w.heap[b]? = some (.cells (rqCells r).toArray E fr)) : w.rangeAt b 9 (u64V (vlP r)) := by
  intro j v hv
  refine cell_of h ?_
  simp only [List.getElem?_toArray, rqCells]
  rw [show 9 + j = (8 + j) + 1 by omega, List.getElem?_cons_succ, List.getElem?_append_right (by rw [intsV_len, plP_len hr]; omega), intsV_len, plP_len hr, show 8 + j - 8 = j by omega]; exact hv

set_option maxHeartbeats 400000 in
theorem size_any (r : Rq) (hr : r.wf) (w : World) :
    Calls Try.prog 73 #[encRq r] w fun e w' => e = .returned (.int .i64 r.place.length) ∧ w.alloc (.cells (rqCells r).toArray 134) = w' := by
  have H1 := range_pl (block_new w (.cells (rqCells r).toArray 134))
  have hl := plP_len hr
  have hi := Lib.hid (idx_plP hr)
  have hle := hr.hi
  rw [encRq]
  obtain ⟨ix, hix⟩ : ∃ ix, ix = idxI (plP r) 0 := ⟨_, rfl⟩
  have hcall : ∀ c, Calls Try.prog 102 #[.slice (some ⟨w.heap.size, 1, none⟩) 8 c, .int .i64 0] (w.alloc (.cells (rqCells r).toArray 134)) fun e w' => e = .returned (.int .i64 ix) ∧ (w.alloc (.cells (rqCells r).toArray 134)) = w' := by
    intro c
    have := index_any w.heap.size 1 c (plP r) 0 _ H1 (by omega)
    rw [hl, ← hix] at this
    exact this
  clear H1 hl
  by_cases h8 : r.place.length = 8
  · have hx : ix < 0 := by rw [hix, hi.out, if_pos h8]; omega
    have h8' := Lib.hid h8
    clear hix h8
    go_enter Try.func73, Try.ntmps73
    go_wp2_with (go_at_call 102; refine (hcall _).mono ?_; rintro e w' ⟨rfl, rfl⟩)
    go_ret
    exact ⟨ret_int (by rw [h8'.out]; rfl), rfl⟩
  · have hx : ¬ ix < 0 := by rw [hix, hi.out, if_neg h8]; omega
    have h8' := Lib.hid (show ix = r.place.length by rw [hix, hi.out, if_neg h8])
    clear hix h8
    go_enter Try.func73, Try.ntmps73
    go_wp2_with (go_at_call 102; refine (hcall _).mono ?_; rintro e w' ⟨rfl, rfl⟩)
    go_ret
    exact ⟨ret_int h8'.out, rfl⟩
end Go.Proofs.Xw
