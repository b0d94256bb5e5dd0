import Derived.Test.YtpoeomnopcgheaaXwReq4
namespace Go.Proofs.Xw
open Go.RowKit Go.Xw

theorem rqCells_put {r : Rq} (hr : r.wf) {i : Nat} (hi : i < r.place.length) (what value : Int) :
    (((rqCells r).toArray.setIfInBounds (1 + i) (.int .i64 (what + 1))).setIfInBounds (9 + i) (.int .u64 value)) = (rqCells (r.put i what value)).toArray := by
  have h8 : (r.place.map (· + 1) ++ List.replicate (8 - r.place.length) 0).length = 8 := plP_len hr
  have e1 : plP (r.put i what value) = (plP r).set i (what + 1) := by
    simp only [plP, Rq.put, List.length_set]
    rw [List.set_append_left _ _ (by simpa using hi), List.map_set]
  have e2 : vlP (r.put i what value) = (vlP r).set i value := by
    simp only [vlP, Rq.put, List.length_set]
    rw [List.set_append_left _ _ (by rw [hr.len]; exact hi)]
  simp only [rqCells, e1, e2, List.setIfInBounds_toArray]
  congr 1
  rw [show (r.put i what value).kind = r.kind from rfl, show 1 + i = i + 1 by omega, show 9 + i = (8 + i) + 1 by omega, List.set_cons_succ, List.set_cons_succ, List.set_append_left _ _ (by rw [intsV_len, plP_len hr]; have := hr.hi; omega),
    List.set_append_right _ _ (by rw [List.length_set, intsV_len, plP_len hr]; omega), List.length_set, intsV_len, plP_len hr, show 8 + i - 8 = i by omega]
  simp [intsV, u64V, List.map_set]

set_option maxRecDepth 20000 in
set_option maxHeartbeats 1000000 in
theorem put_yes (w : World) (p m : Nat) (kv : Value) (T : Tab) (h : IsTab w p m kv T) (hkl : T.kept.length < 1000000) (id what value : Int) (hwh : what = 1 ∨ what = 2)
    (r : Rq) (hr : r.wf) (hf : afind T.R id = some r) (i : Nat) (hi : i < r.place.length) (h2 : r.place[i] = 0) :
    Calls Try.prog 76 #[.pointer (some ⟨p, 0, none⟩), .int .i64 id, .int .i64 i, .int .i64 (what + 1), .int .u64 value] w fun e w' => e = .returned (.int .i64 (T.putC id i)) ∧ TabPost w p m kv (T.put id i what value) w' := by
  have c1 := cell_of h.tab (i := 1) rfl
  have hg := Lib.hid (show afind (rqM T.R) id = some (encRq r) by rw [rqM, afind_map, hf]; rfl)
  have HL := Lib.hid (rqCells_len hr)
  have hi8 : (i : Int) < 8 := by have := hr.hi; omega
  have hpl : (rqCells r).toArray[1 + i]? = some (.int .i64 (r.place[i] + 1)) := by
    simp only [List.getElem?_toArray, rqCells]
    rw [show 1 + i = i + 1 by omega, List.getElem?_cons_succ, List.getElem?_append_left (by rw [intsV_len, plP_len hr]; omega), intsV, List.getElem?_map, plP_get hi]; rfl
  have hc := Lib.hid (show T.putC id i = 0 by simp [Tab.putC, hf, h2, hi])
  have hp := Lib.hid (show T.put id i what value = T.settle id (r.put i what value) by simp [Tab.put, hc.out, hf])
  have hb : (r.place[i] + 1 != 1) = false := by simp [h2]
  have hr' := hr.put i hwh value
  have HL' := Lib.hid (rqCells_len hr')
  have Hput := Lib.hid (rqCells_put hr hi what value)
  have hvl : ∃ u, (rqCells r).toArray[9 + i]? = some u := ⟨_, Array.getElem?_eq_getElem (by rw [List.size_toArray, HL.out]; have := hr.hi; omega)⟩
  obtain ⟨u, hvl⟩ := hvl
  have hi' := Lib.hid hi
  have hpv := Lib.hid hpl
  have hvv := Lib.hid hvl
  clear hf h2 hpl hvl
  go_enter Try.func76, Try.ntmps76
  go_wp2_with (first
    | (at_lookup; refine wpList_lookupK_some _ rfl (.tmp 17) (.tmp 18) 121 rfl keyI Try.underlying121 m _ h.map _ (zero134 _) id (encRq r) hg.out rfl rfl ?_)
    | (refine wpList_store_new _ rfl 134 (.tmp 11) (.tmp 20) rfl _ (rqCells r).toArray rfl rfl (by simp only [List.size_toArray, HL.out]; rfl) (by rw [List.size_toArray, HL.out]; exact size134) (rqCells_one _) ?_)
    | (refine wpList_load_blk (op := ⟨some 30, _, _, _, _, _⟩) _ rfl 134 (.tmp 11) rfl w.heap.size 0 rfl (block_new _ _) (rqCells r) (by simp) Try.underlying134 rfl (by rw [HL.out]; exact size134) ?_)
    | (go_at_call 73; refine (size_any r hr _).mono ?_; rintro e w2 ⟨rfl, hw2⟩; have hX2 : w2.heap[w.heap.size]? = some (.cells (rqCells r).toArray 134 (0, 0)) := (by rw [← hw2]; exact block_old (block_new _ _) _); have hk2 : Keep (fun _ => False) w w2 := (by rw [← hw2]; exact ((Keep.refl _ _).alloc _).alloc _); clear hw2; have cp2 := cell_of hX2 hpv.out; have cv2 := cell_of hX2 hvv.out; have fp2 := free_of (i := 1 + i) hX2; have fv2 := free_of (i := 9 + i) hX2)
    | (refine wpList_load_blk (op := ⟨some 50, _, _, _, _, _⟩) _ rfl 134 (.tmp 11) rfl w.heap.size 0 rfl (block_set (block_set hX2 _) _) (rqCells (r.put i what value)) (by rw [Hput.out]; simp) Try.underlying134 rfl (by rw [HL'.out]; exact size134) ?_))
  have hk9 : Keep (fun _ => False) w ((w2.setCell ⟨w.heap.size, 1 + i, none⟩ (.int .i64 (what + 1))).setCell ⟨w.heap.size, 9 + i, none⟩ (.int .u64 value)) :=
    (hk2.setCell _ _ (.inr (Nat.le_refl _))).setCell _ _ (.inr (Nat.le_refl _))
  have hset := settle_any _ p m kv T (h.keep0 hk9) hkl id (r.put i what value) hr'
  rw [encRq] at hset
  refine hset.mono ?_
  rintro e w' ⟨rfl, hpost⟩
  clear hset cp2 cv2 fp2 fv2
  go_wp2
  go_ret
  exact ⟨ret_int hc.out.symm, by rw [hp.out]; exact TabPost.pre (hk9.mono fun _ _ f => f.elim) hpost⟩

set_option maxRecDepth 20000 in
set_option maxHeartbeats 1000000 in
theorem put_any (w : World) (p m : Nat) (kv : Value) (T : Tab) (h : IsTab w p m kv T) (hw : T.wf) (hkl : T.kept.length < 1000000) (id place what value : Int) (hwh : what = 1 ∨ what = 2) :
    Calls Try.prog 76 #[.pointer (some ⟨p, 0, none⟩), .int .i64 id, .int .i64 place, .int .i64 (what + 1), .int .u64 value] w fun e w' => e = .returned (.int .i64 (T.putC id place)) ∧ TabPost w p m kv (T.put id place what value) w' := by
  have c1 := cell_of h.tab (i := 1) rfl
  have hself : TabPost w p m kv T w := ⟨kv, h, Keep.refl _ _, .inl rfl⟩
  cases hf : afind T.R id with
  | none =>
    have hg := Lib.hid (show afind (rqM T.R) id = none by rw [rqM, afind_map, hf]; rfl)
    have hc := Lib.hid (show T.putC id place = 3 by simp [Tab.putC, hf])
    have hp := Lib.hid (show T.put id place what value = T by simp [Tab.put, Tab.putC, hf])
    clear hf
    go_enter Try.func76, Try.ntmps76
    go_wp2_with (first
      | (at_lookup; refine wpList_lookupK_none _ rfl (.tmp 17) (.tmp 18) 121 rfl keyI Try.underlying121 m _ h.map _ (zero134 _) id hg.out rfl rfl ?_)
      | (refine wpList_store_new _ rfl 134 (.tmp 11) (.tmp 20) rfl _ _ rfl rfl rfl size134 (rqCells_one _) ?_))
    go_ret
    exact ⟨ret_int hc.out.symm, by rw [hp.out]; exact ⟨kv, h.keep0 ((Keep.refl _ _).alloc _), (Keep.refl _ _).alloc _, .inl rfl⟩⟩
  | some r =>
    have hr : r.wf := hw.req (id, r) (mem_of_afind hf)
    have hg := Lib.hid (show afind (rqM T.R) id = some (encRq r) by rw [rqM, afind_map, hf]; rfl)
    have HL := Lib.hid (rqCells_len hr)
    by_cases h0 : place < 0
    · have hc := Lib.hid (show T.putC id place = 1 by simp [Tab.putC, hf, h0])
      have hp := Lib.hid (show T.put id place what value = T by simp [Tab.put, hc.out])
      clear hf
      go_enter Try.func76, Try.ntmps76
      go_wp2_with (first
        | (at_lookup; refine wpList_lookupK_some _ rfl (.tmp 17) (.tmp 18) 121 rfl keyI Try.underlying121 m _ h.map _ (zero134 _) id (encRq r) hg.out rfl rfl ?_)
        | (refine wpList_store_new _ rfl 134 (.tmp 11) (.tmp 20) rfl _ (rqCells r).toArray rfl rfl (by simp only [List.size_toArray, HL.out]; rfl) (by rw [List.size_toArray, HL.out]; exact size134) (rqCells_one _) ?_)
        | (refine wpList_load_blk (op := ⟨some 30, _, _, _, _, _⟩) _ rfl 134 (.tmp 11) rfl w.heap.size 0 rfl (block_new _ _) (rqCells r) (by simp) Try.underlying134 rfl (by rw [HL.out]; exact size134) ?_)
        | (go_at_call 73; refine (size_any r hr _).mono ?_; rintro e w' ⟨rfl, rfl⟩))
      go_ret
      exact ⟨ret_int hc.out.symm, by rw [hp.out]; exact ⟨kv, h.keep0 ((Keep.refl _ _).alloc _), (Keep.refl _ _).alloc _, .inl rfl⟩⟩
    · by_cases h1 : (r.place.length : Int) ≤ place
      · have hc := Lib.hid (show T.putC id place = 1 by simp [Tab.putC, hf, h1])
        have hp := Lib.hid (show T.put id place what value = T by simp [Tab.put, hc.out])
        clear hf
        go_enter Try.func76, Try.ntmps76
        go_wp2_with (first
          | (at_lookup; refine wpList_lookupK_some _ rfl (.tmp 17) (.tmp 18) 121 rfl keyI Try.underlying121 m _ h.map _ (zero134 _) id (encRq r) hg.out rfl rfl ?_)
          | (refine wpList_store_new _ rfl 134 (.tmp 11) (.tmp 20) rfl _ (rqCells r).toArray rfl rfl (by simp only [List.size_toArray, HL.out]; rfl) (by rw [List.size_toArray, HL.out]; exact size134) (rqCells_one _) ?_)
          | (refine wpList_load_blk (op := ⟨some 30, _, _, _, _, _⟩) _ rfl 134 (.tmp 11) rfl w.heap.size 0 rfl (block_new _ _) (rqCells r) (by simp) Try.underlying134 rfl (by rw [HL.out]; exact size134) ?_)
          | (go_at_call 73; refine (size_any r hr _).mono ?_; rintro e w' ⟨rfl, rfl⟩))
        go_ret
        exact ⟨ret_int hc.out.symm, by rw [hp.out]; exact ⟨kv, h.keep0 (((Keep.refl _ _).alloc _).alloc _), ((Keep.refl _ _).alloc _).alloc _, .inl rfl⟩⟩
      · obtain ⟨i, rfl⟩ := Int.eq_ofNat_of_zero_le (Int.not_lt.1 h0)
        have hi : i < r.place.length := by omega
        have hi8 : (i : Int) < 8 := by have := hr.hi; omega
        have hpl : (rqCells r).toArray[1 + i]? = some (.int .i64 (r.place[i] + 1)) := by
          simp only [List.getElem?_toArray, rqCells]
          rw [show 1 + i = i + 1 by omega, List.getElem?_cons_succ, List.getElem?_append_left (by rw [intsV_len, plP_len hr]; omega), intsV, List.getElem?_map, plP_get hi]; rfl
        have cp := cell_of (block_new w (.cells (rqCells r).toArray 134)) hpl
        have cp' := cell_of (block_old (block_new w (.cells (rqCells r).toArray 134)) (.cells (rqCells r).toArray 134)) hpl
        by_cases h2 : r.place[i] = 0
        · exact put_yes w p m kv T h hkl id what value hwh r hr hf i hi h2
        · have hc := Lib.hid (show T.putC id i = 4 by simp [Tab.putC, hf, h2, hi])
          have hp := Lib.hid (show T.put id i what value = T by simp [Tab.put, hc.out])
          have hb : (r.place[i] + 1 != 1) = true := by simp; omega
          clear hf h2
          go_enter Try.func76, Try.ntmps76
          go_wp2_with (first
            | (at_lookup; refine wpList_lookupK_some _ rfl (.tmp 17) (.tmp 18) 121 rfl keyI Try.underlying121 m _ h.map _ (zero134 _) id (encRq r) hg.out rfl rfl ?_)
            | (refine wpList_store_new _ rfl 134 (.tmp 11) (.tmp 20) rfl _ (rqCells r).toArray rfl rfl (by simp only [List.size_toArray, HL.out]; rfl) (by rw [List.size_toArray, HL.out]; exact size134) (rqCells_one _) ?_)
            | (refine wpList_load_blk (op := ⟨some 30, _, _, _, _, _⟩) _ rfl 134 (.tmp 11) rfl w.heap.size 0 rfl (block_new _ _) (rqCells r) (by simp) Try.underlying134 rfl (by rw [HL.out]; exact size134) ?_)
            | (go_at_call 73; refine (size_any r hr _).mono ?_; rintro e w' ⟨rfl, rfl⟩))
          go_ret
          exact ⟨ret_int hc.out.symm, by rw [hp.out]; exact ⟨kv, h.keep0 (((Keep.refl _ _).alloc _).alloc _), ((Keep.refl _ _).alloc _).alloc _, .inl rfl⟩⟩
end Go.Proofs.Xw
