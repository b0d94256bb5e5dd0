import Derived.Test.YtpoeomnopcgheaaXwReq1
namespace Go.Proofs.Xw
open Go.RowKit Go.Xw

def freshL (n : Nat) : List Int := List.replicate n 1 ++ List.replicate (8 - n) 0

theorem freshL_get (k : Nat) (h : k < 8) : (intsV (freshL k)).toArray[k]? = some (.int .i64 0) := by
  simp only [intsV, freshL, List.map_append, List.map_replicate, List.getElem?_toArray]
  rw [List.getElem?_append_right (by simp)]
  simp only [List.length_replicate, Nat.sub_self]; rw [List.getElem?_replicate, if_pos (by omega)]
theorem freshL_len (k : Nat) (h : k ≤ 8) : (intsV (freshL k)).length = 8 := by simp [intsV, freshL]; omega
theorem freshL_set (k : Nat) (h : k < 8) : (intsV (freshL k)).toArray.setIfInBounds k (.int .i64 1) = (intsV (freshL (k + 1))).toArray := by
  simp only [intsV, freshL, List.map_append, List.map_replicate, List.setIfInBounds_toArray]
  congr 1
  apply List.ext_getElem?
  intro i
  simp only [List.getElem?_set, List.getElem?_append, List.getElem?_replicate, List.length_append, List.length_replicate]
  split <;> split <;> split <;> (try split) <;> first | rfl | omega | (simp; omega) | simp_all

set_option maxHeartbeats 400000 in
theorem fresh_any (n : Int) (w : World) (h0 : 0 ≤ n) (h8 : n ≤ 8) :
    Calls Try.prog 72 #[.int .i64 n] w fun e w' => e = .returned (.agg (intsV (freshL n.toNat)).toArray) ∧ Keep (fun _ => False) w w' := by
  have hlow : ∀ w', Below w.heap.size w w' → Keep (fun _ => False) w w' := fun w' h => Keep.of_below' _ h
  have HL := Lib.hid hlow; clear hlow
  go_enter Try.func72, Try.ntmps72
  go_wp2
  go_loopw [3, 5] (fun _ i wr => ∃ k : Nat, (k : Int) ≤ n ∧ i = .int .i64 k ∧ wr.heap[w.heap.size]? = some (.cells (intsV (freshL k)).toArray 132 (0, 0)) ∧ Below w.heap.size w wr)
    (fun _ i _ => n.toNat - (intOf i).toNat)
  case atStart => exact ⟨0, by omega, rfl, block_new _ _, (Below.refl _ _).alloc (Nat.le_refl _) _⟩
  case round =>
    obtain ⟨k, hk, rfl, hb, hB⟩ := hrel
    by_cases hlt : (k : Int) < n
    · have hc := cell_of hb (freshL_get k (by omega))
      have hf := free_of (i := k) hb
      go_wp2
      go_roundw
      case rel => exact ⟨k + 1, by omega, by go_num, (block_set hb _).trans (by rw [freshL_set k (by omega)]), hB.setCell (Nat.le_refl _) _⟩
      case measure => simp [intOf]; omega
    · have hkn := Lib.hid (show k = n.toNat by omega)
      have hlen := Lib.hid (freshL_len k (by omega))
      go_wp2_with (first
        | (refine wpList_load_blk _ rfl 132 (.tmp 2) rfl _ 0 rfl hb (intsV (freshL k)) (by simp) Try.underlying132 rfl (by rw [hlen.out]; exact size132) ?_)
        | (refine wpList_store_blk _ rfl 132 (.tmp 2) (.tmp 11) rfl _ 0 _ rfl rfl hb (by simp) (by rw [List.size_toArray, hlen.out]; exact size132) (all_oneCell_toArray (intsV_one _)) ?_; intro w1 hb1 hg1))
      refine bodyPost_ret (v := .agg (intsV (freshL k)).toArray) (results_cell_row rfl _ _ _ _ _ _ _ rfl (by rw [spl_whole (by simp)] at hb1; simpa using hb1) Try.underlying132 rfl (by rw [List.size_toArray, hlen.out]; exact size132)) rfl ⟨by rw [hkn.out], HL.out _ (hB.grown hg1 hB.size (fun j hj => by cases hj; exact Nat.le_refl _))⟩
end Go.Proofs.Xw
