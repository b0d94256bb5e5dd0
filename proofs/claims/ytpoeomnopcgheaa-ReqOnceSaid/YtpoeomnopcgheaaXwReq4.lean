import Derived.Test.YtpoeomnopcgheaaXwReq3
namespace Go.Proofs.Xw
open Go.RowKit Go.Xw

def TabPost (w : World) (p m : Nat) (kv : Value) (T' : Tab) (w' : World) : Prop :=
  ∃ kv', IsTab w' p m kv' T' ∧ Keep (fun k => k = p ∨ k = m ∨ kv.ownBlock = some k) w w' ∧ (kv'.ownBlock = kv.ownBlock ∨ ∃ g, kv'.ownBlock = some g ∧ w.heap.size ≤ g)

theorem IsTab.keep {w w' : World} {p m : Nat} {kv : Value} {T : Tab} (h : IsTab w p m kv T) {F : Nat → Prop} (k : Keep F w w') (hp : ¬ F p) (hm : ¬ F m) (hn : ∀ (g : Nat) c E fr, F g → w.heap[g]? = some (.cells c E fr) → E ≠ 49 ∧ E ≠ 30) : IsTab w' p m kv T :=
  ⟨block_keep h.tab k hp, h.map.keep k hm, h.ans.keep k hn⟩
theorem IsTab.keep0 {w w' : World} {p m : Nat} {kv : Value} {T : Tab} (h : IsTab w p m kv T) (k : Keep (fun _ => False) w w') : IsTab w' p m kv T :=
  h.keep k id id (fun _ _ _ _ f => f.elim)
theorem TabPost.pre {w w0 w' : World} {p m : Nat} {kv : Value} {T' : Tab} (k : Keep (fun k => k = p ∨ k = m ∨ kv.ownBlock = some k) w w0) (h : TabPost w0 p m kv T' w') : TabPost w p m kv T' w' := by
  obtain ⟨kv', h1, h2, h3⟩ := h
  exact ⟨kv', h1, k.seq h2, h3.imp id fun ⟨g, h4, h5⟩ => ⟨g, h4, Nat.le_trans k.size h5⟩⟩

theorem contains8 {W : World} {B : Nat} {r : Rq} (hr : r.wf) {E : TypeId} {fr : Nat × Nat} (hX : W.heap[B]? = some (.cells (rqCells r).toArray E fr)) (x : Int) (c : Nat) (hx : x ≠ 0) :
    Calls Try.prog 130 #[.slice (some ⟨B, 1, none⟩) 8 c, .int .i64 x] W fun e w' => e = .returned (.bool (decide (x - 1 ∈ r.place))) ∧ W = w' := by
  have := contains_any B 1 c (plP r) x W (range_pl hX) (by rw [plP_len hr]; omega)
  rw [plP_len hr] at this
  rw [show decide (x - 1 ∈ r.place) = decide (x ∈ plP r) from decide_eq_decide.2 (mem_plP x hx).symm]
  exact this

set_option maxRecDepth 20000 in
set_option maxHeartbeats 1000000 in
theorem settle_any (w : World) (p m : Nat) (kv : Value) (T : Tab) (h : IsTab w p m kv T) (hkl : T.kept.length < 1000000) (id : Int) (r : Rq) (hr : r.wf) :
    Calls Try.prog 103 #[.pointer (some ⟨p, 0, none⟩), .int .i64 id, encRq r] w fun e w' => e = .returned (.tuple #[]) ∧ TabPost w p m kv (T.settle id r) w' := by
  have hl := rqCells_len hr
  rw [encRq]
  go_enter Try.func103, Try.ntmps103
  go_wp2_with fail
  have h0 := h.keep0 ((Keep.refl _ w).alloc (.cells (rqCells r).toArray 134))
  have hX := block_new w (.cells (rqCells r).toArray 134)
  obtain ⟨B, hB⟩ : ∃ B, w.heap.size = B := ⟨_, rfl⟩
  have hk0 : Keep (fun k => k = p ∨ k = m ∨ kv.ownBlock = some k) w (w.alloc (.cells (rqCells r).toArray 134)) := (Keep.refl _ _).alloc _
  rw [hB] at hX ⊢
  have HB := Lib.hid hB; clear hB
  generalize w.alloc (.cells (rqCells r).toArray 134) = w0 at h0 hX hk0 ⊢
  have HL := Lib.hid hl; clear hl
  have c1 := cell_of h0.tab (i := 1) rfl
  refine wp_region_std 6 (by kernel_rfl) (by kernel_rfl) ?_
  simp only [List.take_succ_cons, List.take_zero, List.drop_succ_cons, List.drop_zero]
  repeat still_step
  refine wpStill_load_blk rfl 134 (.tmp 5) rfl B 0 rfl (w := w0.drew) hX (rqCells r) (by simp) Try.underlying134 rfl (by rw [HL.out]; exact size134) ?_
  refine wpStill_nil ?_
  refine wpList_updateK w0.drew rfl (.tmp 10) (.tmp 11) (.tmp 12) 121 rfl keyI Try.underlying121 m _ h0.map id (encRq r) rfl rfl rfl ?_
  intro w1 hM1 hg1
  have hk1 := Keep.of_grownBy hg1
  have hkk : Keep (fun k => k = p ∨ k = m ∨ kv.ownBlock = some k) w w1 := (hk0.drew).trans hk1 (fun k _ e => by cases e; exact .inr (.inl rfl))
  have hX1 : w1.heap[B]? = _ := block_keep (w := w0.drew) hX hk1 (fun e => h0.map.ne_block (w := w0) hX (by cases e; rfl))
  have h1 : IsTab w1 p m kv { T with R := aset T.R id r } :=
    ⟨block_keep (w := w0.drew) h0.tab hk1 (fun e => h0.map.ne_block h0.tab (by cases e; rfl)), by
      show MapK encI w1 m (rqM (aset T.R id r)); rw [rqM, ← aset_map encRq]; exact hM1,
     h0.ans.keep (w := w0.drew) hk1 (fun g c E fr e hg => by cases e; exact absurd rfl (h0.map.ne_block hg))⟩
  clear hk1 hg1 hM1 c1 hk0 h0 hX
  go_frame
  by_cases ho : (0 : Int) ∈ r.place
  · have hs := Lib.hid (show T.settle id r = { T with R := aset T.R id r } by rw [Tab.settle, if_pos ho])
    have hob : decide ((0 : Int) ∈ r.place) = true := by simpa using ho
    clear ho
    go_wp2_with (go_at_call 130; refine (contains8 hr (E := 134) (fr := (0, 0)) (by first | exact hX1 | exact block_old hX1 _) _ _ (by decide)).mono ?_; rintro e w' ⟨rfl, rfl⟩)
    exact bodyPost_ret (results_none rfl _ _ _) rfl ⟨rfl, by rw [hs.out]; exact ⟨kv, h1, hkk, .inl rfl⟩⟩
  · have hob : decide ((0 : Int) ∈ r.place) = false := by simpa using ho
    have hfin : ∀ (a : Ans) (v : Value) (w2 : World), a = ansOf id r → a.id = id → Keep (fun _ => False) w1 w2 → w2.ownsRow 0 30 1 v a.vals.length (u64V a.vals) →
        Calls Try.prog 77 #[.pointer (some ⟨p, 0, none⟩), .agg #[.int .i64 id, .int .i64 a.code, v]] w2 fun e w' => e = .returned (.tuple #[]) ∧ TabPost w p m kv (T.settle id r) w' := by
      intro a v w2 ha hid k hv
      have := answer_any w2 p m kv _ (h1.keep0 k) hkl a v hv
      rw [hid] at this
      refine this.mono ?_
      rintro e w' ⟨rfl, kv', h2, h3, h4⟩
      refine ⟨rfl, TabPost.pre (hkk.trans k (fun _ _ f => f.elim)) ⟨kv', ?_, h3, h4⟩⟩
      rw [Tab.settle, if_neg ho, ← ha]
      rwa [show adel (aset T.R id r) id = adel T.R id from adel_aset_self r] at h2
    have hnil := Lib.hid (World.ownsRow_nil)
    by_cases h2 : (2 : Int) ∈ r.place
    · have hob2 : decide ((2 : Int) ∈ r.place) = true := by simpa using h2
      have hA := Lib.hid (show (⟨id, 7, []⟩ : Ans) = ansOf id r by rw [ansOf, if_pos h2])
      clear ho h2
      go_wp2_with (first
        | (go_at_call 130; refine (contains8 hr (E := 134) (fr := (0, 0)) (by first | exact hX1 | exact block_old hX1 _) _ _ (by decide)).mono ?_; rintro e w' ⟨rfl, rfl⟩)
        | (go_at_call 77; refine (hfin ⟨id, 7, []⟩ _ _ hA.out rfl ((Keep.refl _ _).alloc _) (hnil.out _ _ _ _)).mono ?_; rintro e w' ⟨rfl, hpost⟩))
      go_end0
      exact ⟨rfl, hpost⟩
    · have hob2 : decide ((2 : Int) ∈ r.place) = false := by simpa using h2
      by_cases hk : r.kind = 1
      · have hkb : (r.kind == 1) = true := by simp [hk]
        have hA := Lib.hid (show (⟨id, 0, r.vals⟩ : Ans) = ansOf id r by rw [ansOf, if_neg h2, if_pos hk])
        have hlen := Lib.hid hr.len
        have hhi : (r.place.length : Int) ≤ 8 := by have := hr.hi; omega
        have x0 := cell_of hX1 (i := 0) (v := .int .i64 r.kind) (by simp [rqCells])
        have hBlt := lt_of hX1
        have hsl : SlR ((w1.alloc (.cells #[.int .i64 id, .int .i64 0, .slice none 0 0] 49)).alloc (.cells (rqCells r).toArray 134)) 1 (.slice (some ⟨B, 9, none⟩) r.place.length 8) r.place.length (u64V r.vals) := by
          refine ⟨by rw [u64V_len, hlen.out]; omega, .inr ⟨B, 9, 8, rfl, by omega, by decide, by simp; omega, ?_⟩⟩
          intro j v hv
          have := range_vl hr (block_old (block_old hX1 (.cells #[.int .i64 id, .int .i64 0, .slice none 0 0] 49)) (.cells (rqCells r).toArray 134))
          refine this j v ?_
          have hj := (List.getElem?_eq_some_iff.1 hv).1
          rw [u64V_len] at hj
          rw [u64V, vlP, List.map_append, List.getElem?_append_left (by simpa using hj)]; exact hv
        clear ho h2 hk
        go_wp2_with (first
          | (go_at_call 130; refine (contains8 hr (E := 134) (fr := (0, 0)) (by first | exact hX1 | exact block_old hX1 _) _ _ (by decide)).mono ?_; rintro e w' ⟨rfl, rfl⟩)
          | (refine wpList_load_blk _ rfl 134 (.tmp 5) rfl B 0 rfl (block_old hX1 _) (rqCells r) (by simp) Try.underlying134 rfl (by rw [HL.out]; exact size134) ?_)
          | (go_at_call 73; refine (size_any r hr _).mono ?_; rintro e w' ⟨rfl, rfl⟩)
          | (go_at_call 131; refine (clone_u64 _ B 9 8 r.place.length r.vals (by exact hsl) (by omega)).mono ?_; rintro e w3 ⟨a', c', rfl, ho3, hk3, hg3⟩; have hy3 := block_keep (block_old (block_new w1 (.cells #[.int .i64 id, .int .i64 0, .slice none 0 0] 49)) (.cells (rqCells r).toArray 134)) hk3 (fun f => f); have y0 := cell_of hy3 (i := 0) rfl; have y1 := cell_of hy3 (i := 1) rfl; have y2 := cell_of hy3 (i := 2) rfl; have yf := free_of (i := 2) hy3))
        have hk5 : Keep (fun _ => False) w1 (w3.setCell ⟨w1.heap.size, 2, none⟩ (.slice a' r.place.length c')) :=
          (((((Keep.refl _ w1).alloc _).alloc _).trans hk3 (fun _ _ f => f)).setCell _ _ (.inr (Nat.le_refl _)))
        have hv5 : (w3.setCell ⟨w1.heap.size, 2, none⟩ (.slice a' r.place.length c')).ownsRow 0 30 1 (.slice a' r.place.length c') r.vals.length (u64V r.vals) := by
          rw [hlen.out]
          refine ownsRow_keep ho3 ((Keep.refl (fun k => k = w1.heap.size) w3).setCell _ _ (.inl rfl)) (fun g hg e => ?_)
          have := hg3 g hg
          simp at this; omega
        refine (hfin ⟨id, 0, r.vals⟩ _ _ hA.out rfl hk5 hv5).mono ?_
        rintro e w' ⟨rfl, hpost⟩
        go_wp2
        go_end0
        exact ⟨rfl, hpost⟩
      · have hkb : (r.kind == 1) = false := by simp [hk]
        have hA := Lib.hid (show (⟨id, 0, []⟩ : Ans) = ansOf id r by rw [ansOf, if_neg h2, if_neg hk])
        have x0 := cell_of hX1 (i := 0) (v := .int .i64 r.kind) (by simp [rqCells])
        have hBlt := lt_of hX1
        clear ho h2 hk
        go_wp2_with (first
          | (go_at_call 130; refine (contains8 hr (E := 134) (fr := (0, 0)) (by first | exact hX1 | exact block_old hX1 _) _ _ (by decide)).mono ?_; rintro e w' ⟨rfl, rfl⟩)
          | (go_at_call 77; refine (hfin ⟨id, 0, []⟩ _ _ hA.out rfl ((Keep.refl _ _).alloc _) (hnil.out _ _ _ _)).mono ?_; rintro e w' ⟨rfl, hpost⟩))
        go_end0
        exact ⟨rfl, hpost⟩
end Go.Proofs.Xw
