import Derived.Test.YtpoeomnopcgheaaXwReq6
import Derived.Test.YtpoeomnopcgheaaXwReq0
namespace Go.Proofs.Xw
open Go.RowKit Go.Xw

theorem encRq_new (kind : Int) (n : Nat) (h : n ≤ 8) : encRq (Rq.new kind n) = .agg ((.int .i64 kind :: (intsV (freshL n) ++ u64V (List.replicate 8 0))).toArray) := by
  have : n + (8 - n) = 8 := by omega
  simp [encRq, rqCells, plP, vlP, Rq.new, freshL, this]

theorem IsTab.updated {w0 w2 w3 : World} {p m : Nat} {kv : Value} {T : Tab} (h : IsTab w0 p m kv T) {F : Nat → Prop} (hk : Keep (fun _ => False) w0 w2) (hg : w2.grownBy w3 (some m)) {R' : List (Int × Rq)} (hM : MapK encI w3 m (rqM R')) :
    IsTab w3 p m kv { T with R := R' } ∧ Keep (fun k => k = p ∨ k = m ∨ F k) w0 w3 := by
  have h2 := h.keep0 hk
  have kg := Keep.of_grownBy hg
  exact ⟨⟨block_keep h2.tab kg (fun e => h2.map.ne_block h2.tab (by cases e; rfl)), hM, h2.ans.keep kg (fun g c E fr e hg => by cases e; exact absurd rfl (h2.map.ne_block hg))⟩,
    (hk.mono (fun _ _ f => f.elim)).trans kg (fun k _ e => by cases e; exact .inr (.inl rfl))⟩

theorem fill134 (kind : Int) (n : Nat) (h : n ≤ 8) : List.foldl (fun (cs : Array Value) (x : Value × Nat) => cs.setIfInBounds (1 + x.snd) x.fst) #[.int .i64 kind, .int .i64 0, .int .i64 0, .int .i64 0, .int .i64 0, .int .i64 0, .int .i64 0, .int .i64 0, .int .i64 0, .int .u64 0, .int .u64 0, .int .u64 0, .int .u64 0, .int .u64 0, .int .u64 0, .int .u64 0, .int .u64 0] (intsV (freshL n)).zipIdx = (rqCells (Rq.new kind n)).toArray := by
  have hn : n = 0 ∨ n = 1 ∨ n = 2 ∨ n = 3 ∨ n = 4 ∨ n = 5 ∨ n = 6 ∨ n = 7 ∨ n = 8 := by omega
  clear h
  rcases hn with rfl | rfl | rfl | rfl | rfl | rfl | rfl | rfl | rfl <;> (show List.foldl _ _ _ = _; kernel_rfl)

set_option maxRecDepth 20000 in
set_option maxHeartbeats 1000000 in
theorem open_some (w : World) (p m : Nat) (kv : Value) (T : Tab) (h : IsTab w p m kv T) (hw : T.wf) (id kind count : Int) (r : Rq) (hf : afind T.R id = some r) :
    Calls Try.prog 32 #[.pointer (some ⟨p, 0, none⟩), .int .i64 id, .int .i64 kind, .int .i64 count] w fun e w' => e = .returned (.int .i64 (T.openC id kind count)) ∧ TabPost w p m kv (T.open' id kind count) w' := by
  have hr : r.wf := hw.req (id, r) (mem_of_afind hf)
  have c0 := cell_of h.tab (i := 0) rfl
  have c1 := cell_of h.tab (i := 1) rfl
  have hg := Lib.hid (show afind (rqM T.R) id = some (encRq r) by rw [rqM, afind_map, hf]; rfl)
  have hc := Lib.hid (show T.openC id kind count = if id < 1 ∨ (kind ≠ 1 ∧ kind ≠ 2) ∨ count < 1 ∨ 8 < count then 1 else 4 by rw [Tab.openC, hf]; rfl)
  have hp := Lib.hid (show T.open' id kind count = T by rw [Tab.open', if_neg (by rw [hc.out]; split <;> decide)])
  have HL := Lib.hid (rqCells_len hr)
  clear hf
  obtain ⟨b1, hb1⟩ : ∃ b, (kind != 1) = b := ⟨_, rfl⟩
  obtain ⟨b2, hb2⟩ : ∃ b, (kind != 2) = b := ⟨_, rfl⟩
  have hk := Lib.hid (show (kind ≠ 1 ∧ kind ≠ 2) ↔ (b1 && b2) = true by rw [← hb1, ← hb2]; simp)
  cases b1 <;> cases b2
  all_goals
    go_enter Try.func32, Try.ntmps32
    go_wp2_with (first
      | (at_lookup; refine wpList_lookupK_some _ rfl (.tmp 15) (.tmp 16) 121 rfl keyI Try.underlying121 m _ h.map _ (zero134 _) id (encRq r) hg.out rfl rfl ?_)
      | (refine wpList_store_new _ rfl 134 (.tmp 9) (.tmp 18) rfl _ (rqCells r).toArray rfl rfl (by simp only [List.size_toArray, HL.out]; rfl) (by rw [List.size_toArray, HL.out]; exact size134) (rqCells_one _) ?_))
    all_goals
      go_ret
      refine ⟨ret_int ?_, by rw [hp.out]; exact ⟨kv, h.keep0 ((Keep.refl _ _).alloc _), (Keep.refl _ _).alloc _, .inl rfl⟩⟩
      rw [hc.out]
      first
        | (have hkk := hk.out.2 rfl; rw [if_pos (.inr (.inl hkk))])
        | (have hkk : ¬ (kind ≠ 1 ∧ kind ≠ 2) := fun h => (by have := hk.out.1 h; simp at this); first | rw [if_pos (by omega)] | rw [if_neg (by omega)])

set_option maxRecDepth 20000 in
set_option maxHeartbeats 1000000 in
theorem open_none (w : World) (p m : Nat) (kv : Value) (T : Tab) (h : IsTab w p m kv T) (_hw : T.wf) (id kind count : Int) (hf : afind T.R id = none) :
    Calls Try.prog 32 #[.pointer (some ⟨p, 0, none⟩), .int .i64 id, .int .i64 kind, .int .i64 count] w fun e w' => e = .returned (.int .i64 (T.openC id kind count)) ∧ TabPost w p m kv (T.open' id kind count) w' := by
  have c0 := cell_of h.tab (i := 0) rfl
  have c1 := cell_of h.tab (i := 1) rfl
  have hg := Lib.hid (show afind (rqM T.R) id = none by rw [rqM, afind_map, hf]; rfl)
  have hc := Lib.hid (show T.openC id kind count = if id < 1 ∨ (kind ≠ 1 ∧ kind ≠ 2) ∨ count < 1 ∨ 8 < count then 1 else if (T.R.length : Int) = T.room then 2 else 0 by rw [Tab.openC, hf]; rfl)
  have hp := Lib.hid (show T.openC id kind count ≠ 0 → T.open' id kind count = T by intro e; rw [Tab.open', if_neg e])
  have hp0 := Lib.hid (show T.openC id kind count = 0 → T.open' id kind count = { T with R := aset T.R id (Rq.new kind count.toNat) } by intro e; rw [Tab.open', if_pos e, aset_new hf])
  clear hf
  obtain ⟨b1, hb1⟩ : ∃ b, (kind != 1) = b := ⟨_, rfl⟩
  obtain ⟨b2, hb2⟩ : ∃ b, (kind != 2) = b := ⟨_, rfl⟩
  have hk := Lib.hid (show (kind ≠ 1 ∧ kind ≠ 2) ↔ (b1 && b2) = true by rw [← hb1, ← hb2]; simp)
  obtain ⟨b3, hb3⟩ : ∃ b, ((T.R.length : Int) == T.room) = b := ⟨_, rfl⟩
  have hr3 := Lib.hid (show (T.R.length : Int) = T.room ↔ b3 = true by rw [← hb3]; simp)
  obtain ⟨n, hn⟩ : ∃ n, (rqM T.R).length = n := ⟨_, rfl⟩
  have hn' := Lib.hid hn
  have hnR : n = T.R.length := by rw [← hn]; simp [rqM]
  obtain ⟨z, hz⟩ : ∃ z, z = (⟨0, [], []⟩ : Rq) := ⟨_, rfl⟩
  have hX := h.keep0 ((Keep.refl _ w).alloc (.cells (rqCells z).toArray 134))
  have e1 := cell_of hX.tab (i := 1) rfl
  have e0 := cell_of hX.tab (i := 0) rfl
  have hk1 : Keep (fun k => k = p ∨ k = m ∨ kv.ownBlock = some k) w (w.alloc (.cells (rqCells z).toArray 134)) := (Keep.refl _ _).alloc _
  generalize hw0 : w.alloc (.cells (rqCells z).toArray 134) = w0 at hX e0 e1 hk1
  have Hw0 := Lib.hid (show w.alloc (.cells (rqCells ⟨0, [], []⟩).toArray 134) = w0 by rw [← hz]; exact hw0); clear hw0 hz
  cases b1 <;> cases b2
  all_goals
    go_enter Try.func32, Try.ntmps32
    go_wp2_with (first
      | (at_lookup; refine wpList_lookupK_none _ rfl (.tmp 15) (.tmp 16) 121 rfl keyI Try.underlying121 m _ h.map _ (zero134 _) id hg.out rfl rfl ?_)
      | (refine wpList_store_new _ rfl 134 (.tmp 9) (.tmp 18) rfl _ _ rfl rfl rfl size134 (rqCells_one _) ?_; rw [Hw0.out]))
  all_goals first
    | (go_ret
       have hcc : T.openC id kind count = 1 := by
         rw [hc.out]
         first
           | (have hkk := hk.out.2 rfl; rw [if_pos (.inr (.inl hkk))])
           | rw [if_pos (by omega)]
       exact ⟨ret_int hcc.symm, by rw [hp.out (by rw [hcc]; decide)]; exact ⟨kv, hX, hk1, .inl rfl⟩⟩)
    | skip
  all_goals
    have hlo : 1 ≤ count := by assumption
    have hhi : count ≤ 8 := by assumption
    have hid : 1 ≤ id := by assumption
    have hkk : ¬ (kind ≠ 1 ∧ kind ≠ 2) := fun h => (by have := hk.out.1 h; simp at this)
    refine wp_region_stl (by kernel_rfl) (by kernel_rfl) ?_
    repeat still_step
    refine wpStill_lenK w0.drew rfl (.tmp 39) #[121] rfl 121 rfl Try.underlying121 m _ hX.map rfl ?_
    rw [hn]
    go_frame
    rw [hnR]
    repeat still_step
    refine wpStill_nil ?_
    cases b3
    · have hcc := Lib.hid (show T.openC id kind count = 0 by rw [hc.out, if_neg (by omega), if_neg (by rw [hr3.out]; decide)])
      have hbd := fill134 kind count.toNat (by omega)
      have hbl := (intsV_len (freshL count.toNat)).trans (show (freshL count.toNat).length = 8 by simp [freshL]; omega)
      have hX2 := hX.keep0 ((Keep.refl (fun _ => False) w0).drew.drew)
      go_wp2_with fail
      go_region_law (first | (go_simp; go_at_call 72; refine (fresh_any count _ (by omega) (by omega)).mono ?_; rintro e w2 ⟨rfl, hk2⟩; have hM2 := hX2.map.keep hk2 (fun f => f); obtain ⟨w3, hmu, hM3, hg3⟩ := hM2.update keyI Try.underlying121 id (encRq (Rq.new kind count.toNat)); unfold encI encRq at hmu; have d1 := cell_of (block_keep hX2.tab hk2 (fun f => f)) (i := 1) rfl))
      all_goals
        have hU := hX2.updated (F := fun k => kv.ownBlock = some k) hk2 hg3 (R' := aset T.R id (Rq.new kind count.toNat)) (by rw [rqM, ← aset_map encRq]; exact hM3)
        have HU := Lib.hid hU
        clear hU hmu hM3 hg3 hM2 d1 hk2
        go_wp2
        go_ret
        exact ⟨ret_int hcc.out.symm, by rw [hp0.out hcc.out]; exact ⟨kv, HU.out.1, (hk1.drew.drew).seq HU.out.2, .inl rfl⟩⟩
    · have hcc := Lib.hid (show T.openC id kind count = 2 by rw [hc.out, if_neg (by omega), if_pos (hr3.out.2 rfl)])
      go_wp2
      go_ret
      exact ⟨ret_int hcc.out.symm, by rw [hp.out (by rw [hcc.out]; decide)]; exact ⟨kv, hX.keep0 (Keep.refl _ w0).drew, hk1.drew, .inl rfl⟩⟩

theorem open_any (w : World) (p m : Nat) (kv : Value) (T : Tab) (h : IsTab w p m kv T) (hw : T.wf) (id kind count : Int) :
    Calls Try.prog 32 #[.pointer (some ⟨p, 0, none⟩), .int .i64 id, .int .i64 kind, .int .i64 count] w fun e w' => e = .returned (.int .i64 (T.openC id kind count)) ∧ TabPost w p m kv (T.open' id kind count) w' := by
  cases hf : afind T.R id with
  | none => exact open_none w p m kv T h hw id kind count hf
  | some r => exact open_some w p m kv T h hw id kind count r hf
end Go.Proofs.Xw
