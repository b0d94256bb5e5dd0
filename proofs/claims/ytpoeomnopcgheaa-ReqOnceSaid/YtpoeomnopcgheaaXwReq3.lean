import Derived.Test.YtpoeomnopcgheaaXwReq2
import Derived.StillTailTactics
import Derived.Deep.RegionHeld3
import Derived.Deep.AppendLies
import Derived.Deep.DrawnRows
import Derived.Deep.RegionLaw
namespace Go.Proofs.Xw
open Go.RowKit Go.Xw
attribute [local go_sem ↓] Go.wp_at_zero Go.wp_at_succ

theorem AnsOwn.push {w : World} {kv' : Value} {l : List Ans} {vs : List Value} (hvs : vs.length = l.length) {a : Ans} {v : Value}
    (ho : w.ownsRow 0 49 3 kv' (l.length + 1) (ansCells l vs ++ [.int .i64 a.id, .int .i64 a.code, v]))
    (hu : ∀ (i : Nat) (a : Ans) (v : Value), l[i]? = some a → vs[i]? = some v → w.ownsRow 0 30 1 v a.vals.length (u64V a.vals)) (hv : w.ownsRow 0 30 1 v a.vals.length (u64V a.vals)) : AnsOwn w kv' (l ++ [a]) := by
  refine ⟨vs ++ [v], by simp [hvs], by rw [ansCells_app l vs a v hvs]; simpa using ho, fun i b u hb hu' => ?_⟩
  by_cases hi : i < l.length
  · rw [List.getElem?_append_left hi] at hb
    rw [List.getElem?_append_left (by omega)] at hu'
    exact hu i b u hb hu'
  · have hi' := (List.getElem?_eq_some_iff.1 hb).1
    simp at hi'
    obtain rfl : i = l.length := by omega
    rw [List.getElem?_append_right (Nat.le_refl _)] at hb
    rw [List.getElem?_append_right (by omega), hvs] at hu'
    simp at hb hu'
    subst hb; subst hu'
    exact hv

theorem answer_end {w w1 W w2 : World} {p m : Nat} {kv : Value} {T : Tab} {a : Ans} {v : Value} {vs : List Value} {gg cap : Nat} {R' : List (Int × Rq)}
    (hp : p < w.heap.size) (hK1 : Keep (fun k => k = p ∨ k = m ∨ kv.ownBlock = some k) w w1)
    (hM1 : MapK encI w1 m (rqM R')) (hT1 : w1.heap[p]? = some (.cells #[.int .i64 T.room, .map (some m), kv] 123 (0, 0)))
    (hV1 : w1.ownsRow 0 30 1 v a.vals.length (u64V a.vals)) (hvs : vs.length = T.kept.length) (hO1 : w1.ownsRow 0 49 3 kv T.kept.length (ansCells T.kept vs))
    (hU1 : ∀ (i : Nat) (a : Ans) (v : Value), T.kept[i]? = some a → vs[i]? = some v → w1.ownsRow 0 30 1 v a.vals.length (u64V a.vals))
    (hW : Keep (fun _ => False) w1 W) (hgrow : W.grownBy w2 kv.ownBlock) (hown2 : w2.ownsRow 0 49 3 (.slice (some ⟨gg, 0, none⟩) (T.kept.length + 1) cap) (T.kept.length + 1) (ansCells T.kept vs ++ [.int .i64 a.id, .int .i64 a.code, v]))
    (hat : kv.ownBlock = some gg ∨ w1.heap.size ≤ gg) :
    ∃ kv', IsTab (w2.setCell ⟨p, 2, none⟩ (.slice (some ⟨gg, 0, none⟩) (T.kept.length + 1) cap)) p m kv' { T with R := R', kept := T.kept ++ [a] } ∧
      Keep (fun k => k = p ∨ k = m ∨ kv.ownBlock = some k) w (w2.setCell ⟨p, 2, none⟩ (.slice (some ⟨gg, 0, none⟩) (T.kept.length + 1) cap)) ∧ (kv'.ownBlock = kv.ownBlock ∨ ∃ g, kv'.ownBlock = some g ∧ w.heap.size ≤ g) := by
  have hgp : kv.ownBlock ≠ some p := own_ne_block hO1 hT1 (by decide)
  have hgm : kv.ownBlock ≠ some m := hM1.ne_own hO1
  have hpm := hM1.ne_block hT1
  have k2 : Keep (fun k => kv.ownBlock = some k) w1 w2 := (hW.mono (fun _ _ f => f.elim)).trans (Keep.of_grownBy hgrow) (fun k _ e => e.symm)
  have hT2 : w2.heap[p]? = _ := block_keep hT1 k2 hgp
  have hM2 := hM1.keep k2 hgm
  have hggp : gg ≠ p := by
    intro e; subst e
    rcases hat with h | h
    · exact hgp h
    · have := lt_of hT1; omega
  have k3 : Keep (fun k => k = p) w2 (w2.setCell ⟨p, 2, none⟩ (.slice (some ⟨gg, 0, none⟩) (T.kept.length + 1) cap)) := (Keep.refl _ _).setCell _ _ (.inl rfl)
  refine ⟨.slice (some ⟨gg, 0, none⟩) (T.kept.length + 1) cap, ⟨block_set hT2 _, hM2.keep k3 (fun e => hpm e.symm), ?_⟩, (hK1.trans k2 (fun k _ e => .inr (.inr e))).trans k3 (fun k _ e => .inl e), ?_⟩
  · refine AnsOwn.push hvs (ownsRow_keep hown2 k3 (by intro g hg e; cases hg; exact hggp e)) (fun i b u hb hu => ?_) ?_
    · refine ownsRow_keep (ownsRow_keep (hU1 i b u hb hu) k2 ?_) k3 ?_
      · intro g hg e
        obtain ⟨c, hc⟩ := own_block hO1 e
        exact own_ne_block (hU1 i b u hb hu) hc (by decide) hg
      · intro g hg e; subst e; exact own_ne_block (hU1 i b u hb hu) hT1 (by decide) hg
    · refine ownsRow_keep (ownsRow_keep hV1 k2 ?_) k3 ?_
      · intro g hg e
        obtain ⟨c, hc⟩ := own_block hO1 e
        exact own_ne_block hV1 hc (by decide) hg
      · intro g hg e; subst e; exact own_ne_block hV1 hT1 (by decide) hg
  · rcases hat with h | h
    · exact .inl h.symm
    · exact .inr ⟨gg, rfl, Nat.le_trans hK1.size h⟩

theorem info49 : (Try.prog.info? 49).map (fun i => (i.zero, i.size, i.bytes)) = some (some (.agg #[.int .i64 0, .int .i64 0, .slice none 0 0]), 3, 40) := by kernel_rfl

set_option maxRecDepth 20000 in
set_option maxHeartbeats 1000000 in
theorem answer_any (w : World) (p m : Nat) (kv : Value) (T : Tab) (h : IsTab w p m kv T) (hkl : T.kept.length < 1000000) (a : Ans) (v : Value) (hv : w.ownsRow 0 30 1 v a.vals.length (u64V a.vals)) :
    Calls Try.prog 77 #[.pointer (some ⟨p, 0, none⟩), .agg #[.int .i64 a.id, .int .i64 a.code, v]] w fun e w' => e = .returned (.tuple #[]) ∧
      ∃ kv', IsTab w' p m kv' { T with R := adel T.R a.id, kept := T.kept ++ [a] } ∧ Keep (fun k => k = p ∨ k = m ∨ kv.ownBlock = some k) w w' ∧ (kv'.ownBlock = kv.ownBlock ∨ ∃ g, kv'.ownBlock = some g ∧ w.heap.size ≤ g) := by
  go_enter Try.func77, Try.ntmps77
  go_wp2_with fail
  have hT := block_old h.tab (.cells #[.int .i64 a.id, .int .i64 a.code, v] 49)
  have hX := block_new w (.cells #[.int .i64 a.id, .int .i64 a.code, v] 49)
  obtain ⟨B, hB⟩ : ∃ B, w.heap.size = B := ⟨_, rfl⟩
  rw [hB] at hX ⊢
  have HB := Lib.hid hB; clear hB
  generalize hw0 : w.alloc (.cells #[.int .i64 a.id, .int .i64 a.code, v] 49) = w0 at hT hX ⊢
  have Hw0 := Lib.hid hw0; clear hw0
  have c1 := cell_of hT (i := 1) rfl
  have x0 := cell_of hX (i := 0) rfl
  go_still_tail 6, (by kernel_rfl)
  change wpList _ _ _ _ _ w0.drew
  have hM0 : MapK encI w0.drew m (rqM T.R) := by rw [← Hw0.out]; exact h.map.alloc _
  have hA0 : AnsOwn w0.drew kv T.kept := by
    obtain ⟨vs, h1, h2, h3⟩ := h.ans
    rw [← Hw0.out]
    exact ⟨vs, h1, h2.alloc _, fun i a v ha hv => (h3 i a v ha hv).alloc _⟩
  have hV0 : w0.drew.ownsRow 0 30 1 v a.vals.length (u64V a.vals) := by rw [← Hw0.out]; exact hv.alloc _
  refine wpList_deleteK _ rfl (.tmp 7) (.tmp 9) #[121, 3] rfl 121 rfl keyI Try.underlying121 m _ hM0 a.id rfl rfl ?_
  intro w1 hM1 hg1
  have hk1 := Keep.of_grownBy hg1
  have hT1 : w1.heap[p]? = _ := block_keep (w := w0.drew) hT hk1 (fun e => hM0.ne_block (w := w0.drew) hT (by cases e; rfl))
  have hX1 : w1.heap[B]? = _ := block_keep (w := w0.drew) hX hk1 (fun e => hM0.ne_block (w := w0.drew) hX (by cases e; rfl))
  have hA1 : AnsOwn w1 kv T.kept := hA0.keep hk1 (fun g c E fr e hg => by cases e; exact absurd rfl (hM0.ne_block hg))
  have hV1 := ownsRow_keep hV0 hk1 (fun g hg e => hM0.ne_own hV0 (by rw [hg, e]))
  have hK1 : Keep (fun k => k = p ∨ k = m ∨ kv.ownBlock = some k) w w1 := by
    have h1 : Keep (fun k => k = p ∨ k = m ∨ kv.ownBlock = some k) w w0.drew := by rw [← Hw0.out]; exact ((Keep.refl _ _).alloc _).drew
    exact h1.trans hk1 (fun k _ e => by cases e; exact .inr (.inl rfl))
  have hBw : w.heap.size ≤ B := Nat.le_of_eq HB.out
  have hpB : p ≠ B := by have := lt_of h.tab; have := HB.out; omega
  have hgB : kv.ownBlock ≠ some B := by
    intro e; obtain ⟨vs, _, h2, _⟩ := h.ans; have := own_lt h2 e; have := HB.out; omega
  have hgp : kv.ownBlock ≠ some p := by obtain ⟨vs, _, h2, _⟩ := h.ans; exact own_ne_block h2 h.tab (by decide)
  clear hA0 hV0 hM0 hg1 hk1 hT hX c1 x0
  obtain ⟨vs, hvs, hO1, hU1⟩ := hA1
  have c2 := cell_of hT1 (i := 2) rfl
  have f2 := free_of (i := 2) hT1
  have x0 := cell_of hX1 (i := 0) rfl
  have x1 := cell_of hX1 (i := 1) rfl
  have x2 := cell_of hX1 (i := 2) rfl
  have hpl := lt_of hT1
  have hBl := lt_of hX1
  have HU := Lib.hid hU1; clear hU1
  have Hvs := Lib.hid hvs; clear hvs
  obtain ⟨i0, hi0, hz0, hz1, hz2⟩ := info_parts info49
  go_wp2_with fail
  have Hp := Lib.hid (lt_of h.tab)
  have hone : ∀ u ∈ [Value.int .i64 a.id, .int .i64 a.code, v], u.oneCell' = true := by
    obtain ⟨_, b | ⟨g, cap, cur, b, _⟩⟩ := hV1
    · simp [b.1, Value.oneCell']
    · simp [b, Value.oneCell']
  go_region_law (first
    | ((refine step_append_lies _ (by rfl) _ _ _ (by rfl) 0 49 i0 _ 3 40 Try.underlying40 hi0 hz0 hz1 hz2 rfl (by omega) kv T.kept.length (ansCells T.kept vs) (by rfl) ((hO1.alloc _).drew) ⟨w1.heap.size, 0, none⟩ 1 1 [.int .i64 a.id, .int .i64 a.code, v] (by rfl) (by rfl) (World.news_of_block (cs := #[.int .i64 a.id, .int .i64 a.code, v]) (t := 49) (fr := (0, 0)) (heap_alloc_new w1 _)) hone (by omega) (by unfold maxLen; omega) (by omega) (by simp) (w1.heap.size + 1) (by simp) ?_; intro gg cap w2 hown2 hgrow hat hlt; have d2 := far_cell hgrow rfl hpl hgp c2; have e2 := far_free hgrow rfl hpl hgp f2)))
  all_goals
    go_end0
    exact ⟨rfl, answer_end Hp.out hK1 (by rw [rqM, ← adel_map]; exact hM1) hT1 hV1 Hvs.out hO1 HU.out (((Keep.refl _ _).alloc _).drew) hgrow (by simpa using hown2) (hat.imp id (fun e => by omega))⟩
end Go.Proofs.Xw
