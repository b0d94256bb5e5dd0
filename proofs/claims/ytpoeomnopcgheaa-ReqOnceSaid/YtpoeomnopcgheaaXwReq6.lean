import Derived.Test.YtpoeomnopcgheaaXwReq5
namespace Go.Proofs.Xw
open Go.RowKit Go.Xw

set_option maxRecDepth 20000 in
theorem give_any (w : World) (p m : Nat) (kv : Value) (T : Tab) (h : IsTab w p m kv T) (hw : T.wf) (hkl : T.kept.length < 1000000) (id place value : Int) :
    Calls Try.prog 33 #[.pointer (some ⟨p, 0, none⟩), .int .i64 id, .int .i64 place, .int .u64 value] w fun e w' => e = .returned (.int .i64 (T.putC id place)) ∧ TabPost w p m kv (T.put id place 1 value) w' := by
  have hp := put_any w p m kv T h hw hkl id place 1 value (.inl rfl)
  have HP := Lib.hid hp; clear hp
  go_enter Try.func33, Try.ntmps33
  go_wp2_with (go_at_call 76; refine (HP.out).mono ?_; rintro e w' ⟨rfl, hq⟩)
  go_ret
  exact ⟨rfl, hq⟩

set_option maxRecDepth 20000 in
theorem lose_any (w : World) (p m : Nat) (kv : Value) (T : Tab) (h : IsTab w p m kv T) (hw : T.wf) (hkl : T.kept.length < 1000000) (id place : Int) :
    Calls Try.prog 34 #[.pointer (some ⟨p, 0, none⟩), .int .i64 id, .int .i64 place] w fun e w' => e = .returned (.int .i64 (T.putC id place)) ∧ TabPost w p m kv (T.put id place 2 0) w' := by
  have hp := put_any w p m kv T h hw hkl id place 2 0 (.inr rfl)
  have HP := Lib.hid hp; clear hp
  go_enter Try.func34, Try.ntmps34
  go_wp2_with (go_at_call 76; refine (HP.out).mono ?_; rintro e w' ⟨rfl, hq⟩)
  go_ret
  exact ⟨rfl, hq⟩

set_option maxRecDepth 20000 in
theorem take_any (w : World) (p m : Nat) (kv : Value) (T : Tab) (h : IsTab w p m kv T) :
    Calls Try.prog 30 #[.pointer (some ⟨p, 0, none⟩)] w fun e w' => e = .returned kv ∧ IsTab w' p m (.slice none 0 0) T.take ∧ AnsOwn w' kv T.kept ∧ Keep (fun k => k = p) w w' := by
  obtain ⟨a', c', hkv⟩ := owns_form h.ans.choose_spec.2.1
  have c2 := cell_of h.tab (i := 2) rfl
  have f2 := free_of (i := 2) h.tab
  have hk : Keep (fun k => k = p) w (w.setCell ⟨p, 2, none⟩ (.slice none 0 0)) := (Keep.refl _ _).setCell _ _ (.inl rfl)
  have ha := h.ans.keep hk (fun g c E fr e hg => by subst e; rw [h.tab] at hg; cases hg; decide)
  have hfin : IsTab (w.setCell ⟨p, 2, none⟩ (.slice none 0 0)) p m (.slice none 0 0) T.take :=
    ⟨block_set h.tab _, h.map.keep hk (fun e => h.map.ne_block h.tab e.symm), ⟨[], rfl, World.ownsRow_nil _ _ _ _, fun i a v ha => by simp [Tab.take] at ha⟩⟩
  subst hkv
  have HF := Lib.hid hfin; have HA := Lib.hid ha; have HK := Lib.hid hk
  clear hfin ha hk h
  go_enter Try.func30, Try.ntmps30
  go_wp2
  go_ret
  exact ⟨rfl, HF.out, HA.out, HK.out⟩

set_option maxRecDepth 20000 in
theorem new_bad (w : World) (room : Int) (h : room < 1 ∨ 16 < room) :
    Calls Try.prog 19 #[.int .i64 room] w fun e w' => e = .returned (.tuple #[.pointer none, .int .i64 1]) ∧ w = w' := by
  rcases h with h | h
  · go_enter Try.func19, Try.ntmps19
    go_wp2
    go_ret2
    exact ⟨rfl, rfl⟩
  · have h' : ¬ room < 1 := by omega
    go_enter Try.func19, Try.ntmps19
    go_wp2
    go_ret2
    exact ⟨rfl, rfl⟩

def Tab.new (room : Int) : Tab := ⟨room, [], []⟩
theorem Tab.new_wf (room : Int) (h : 0 ≤ room) : (Tab.new room).wf := ⟨by simp [Tab.new], by simp [Tab.new], by simp [Tab.new], by simpa [Tab.new] using h⟩

set_option maxRecDepth 20000 in
theorem new_ok (w : World) (room : Int) (h1 : 1 ≤ room) (h2 : room ≤ 16) :
    Calls Try.prog 19 #[.int .i64 room] w fun e w' => ∃ p m, e = .returned (.tuple #[.pointer (some ⟨p, 0, none⟩), .int .i64 0]) ∧ IsTab w' p m (.slice none 0 0) (Tab.new room) ∧ Keep (fun _ => False) w w' ∧ w.heap.size ≤ p ∧ w.heap.size ≤ m := by
  have hmm := @run_makeMap Try.prog
  go_enter Try.func19, Try.ntmps19
  go_wp2
  go_ret2
  refine ⟨w.heap.size + 1, w.heap.size, rfl, ⟨?_, (MapK.made w).alloc _, ⟨[], rfl, World.ownsRow_nil _ _ _ _, fun i a v ha => by simp [Tab.new] at ha⟩⟩, ((Keep.refl _ _).alloc _).alloc _, by omega, by omega⟩
  have := block_new (w.alloc (.map #[] 0)) (.cells #[.int .i64 room, .map (some w.heap.size), .slice none 0 0] 123)
  simpa [Tab.new] using this

set_option maxRecDepth 20000 in
set_option maxHeartbeats 400000 in
theorem cancel_any (w : World) (p m : Nat) (kv : Value) (T : Tab) (h : IsTab w p m kv T) (hw : T.wf) (hkl : T.kept.length < 1000000) (id : Int) :
    Calls Try.prog 35 #[.pointer (some ⟨p, 0, none⟩), .int .i64 id] w fun e w' => e = .returned (.int .i64 (T.cancelC id)) ∧ TabPost w p m kv (T.cancel id) w' := by
  have c1 := cell_of h.tab (i := 1) rfl
  cases hf : afind T.R id with
  | none =>
    have hg := Lib.hid (show afind (rqM T.R) id = none by rw [rqM, afind_map, hf]; rfl)
    have hc := Lib.hid (show T.cancelC id = 3 by simp [Tab.cancelC, hf])
    have hp := Lib.hid (show T.cancel id = T by simp [Tab.cancel, hf])
    clear hf
    go_enter Try.func35, Try.ntmps35
    go_wp2_with (first
      | (at_lookup; refine wpList_lookupK_none _ rfl (.tmp 11) (.tmp 12) 121 rfl keyI Try.underlying121 m _ h.map _ (zero134 _) id hg.out rfl rfl ?_)
      | (refine wpList_store_new _ rfl 134 (.tmp 5) (.tmp 14) rfl _ _ rfl rfl rfl size134 (rqCells_one _) ?_))
    go_ret
    exact ⟨ret_int hc.out.symm, by rw [hp.out]; exact ⟨kv, h.keep0 ((Keep.refl _ _).alloc _), (Keep.refl _ _).alloc _, .inl rfl⟩⟩
  | some r =>
    have hr : r.wf := hw.req (id, r) (mem_of_afind hf)
    have hg := Lib.hid (show afind (rqM T.R) id = some (encRq r) by rw [rqM, afind_map, hf]; rfl)
    have HL := Lib.hid (rqCells_len hr)
    have hc := Lib.hid (show T.cancelC id = 0 by simp [Tab.cancelC, hf])
    have hp := Lib.hid (show T.cancel id = { T with R := adel T.R id, kept := T.kept ++ [⟨id, 8, []⟩] } by simp [Tab.cancel, hf])
    clear hf
    have ha := Lib.hid (answer_any (w.alloc (.cells (rqCells r).toArray 134)) p m kv T (h.keep0 ((Keep.refl _ _).alloc _)) hkl ⟨id, 8, []⟩ (.slice none 0 0) (World.ownsRow_nil _ _ _ _))
    go_enter Try.func35, Try.ntmps35
    go_wp2_with (first
      | (at_lookup; refine wpList_lookupK_some _ rfl (.tmp 11) (.tmp 12) 121 rfl keyI Try.underlying121 m _ h.map _ (zero134 _) id (encRq r) hg.out rfl rfl ?_)
      | (refine wpList_store_new _ rfl 134 (.tmp 5) (.tmp 14) rfl _ (rqCells r).toArray rfl rfl (by simp only [List.size_toArray, HL.out]; rfl) (by rw [List.size_toArray, HL.out]; exact size134) (rqCells_one _) ?_)
      | (go_at_call 77; refine ha.out.mono ?_; rintro e w' ⟨rfl, hq⟩))
    go_ret
    exact ⟨ret_int hc.out.symm, by rw [hp.out]; exact TabPost.pre ((Keep.refl _ _).alloc _) hq⟩
end Go.Proofs.Xw
