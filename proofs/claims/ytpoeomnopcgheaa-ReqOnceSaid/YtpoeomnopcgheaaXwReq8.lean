import Derived.Test.YtpoeomnopcgheaaXwReq7
import Derived.ChangeKeysEq
import Derived.Deep.RegionHeld3
namespace Go.Proofs.Xw
open Go.RowKit Go.Xw

theorem eqItems_ints {P : Program} (d : Nat) {e : TypeId} (he : P.underlying e = some (.int .i64)) (a b : List Int) (n : Nat) (ha : a.length = n) (hb : b.length = n) (w : World) :
    ∀ is : List Nat, (∀ i ∈ is, i < n) → (Op.eqItems (d + 1) e 1 (intsV a).toArray (intsV b).toArray is).run P w = .ok (is.all fun i => a[i]? == b[i]?) w
  | [], _ => by simp [Op.eqItems]
  | i :: is, h => by
    have hi := h i (by simp)
    have e1 : (part e (intsV a).toArray (i * 1)).run P w = .ok (.int .i64 (a[i]'(by omega))) w := by
      simp [part, isAgg, run_underlying he, intsV, List.getElem?_eq_getElem (show i < a.length by omega)]
    have e2 : (part e (intsV b).toArray (i * 1)).run P w = .ok (.int .i64 (b[i]'(by omega))) w := by
      simp [part, isAgg, run_underlying he, intsV, List.getElem?_eq_getElem (show i < b.length by omega)]
    have ih := eqItems_ints d he a b n ha hb w is (fun j hj => h j (by simp [hj]))
    simp only [Op.eqItems, Sem.run_bind, e1, e2, run_equalIn_int w d e .i64 .i64 _ _ he, Result.andThen_ok]
    by_cases hab : a[i]'(by omega) = b[i]'(by omega)
    · have : (a[i]'(by omega) == b[i]'(by omega)) = true := by simp [hab]
      simp only [this, Bool.not_true, Bool.false_eq_true, if_false, ih, List.all_cons]
      simp [List.getElem?_eq_getElem (show i < a.length by omega), List.getElem?_eq_getElem (show i < b.length by omega), hab]
    · have : (a[i]'(by omega) == b[i]'(by omega)) = false := by simp [hab]
      simp only [this, Bool.not_false, if_true, Sem.run_pure, List.all_cons]
      simp [List.getElem?_eq_getElem (show i < a.length by omega), List.getElem?_eq_getElem (show i < b.length by omega), hab]

theorem cells3 : Try.prog.cellsOf 3 = 1 := by kernel_rfl
theorem info3' : ∃ i, Try.prog.info? 3 = some i := by
  have : (Try.prog.info? 3).isSome = true := by kernel_rfl
  exact Option.isSome_iff_exists.1 this
set_option maxRecDepth 20000 in
theorem neq132 (a b : List Int) (ha : a.length = 8) (hb : b.length = 8) (w : World) :
    (binOp .neq 132 (.agg (intsV a).toArray) (.agg (intsV b).toArray)).run Try.prog w = .ok (.bool (decide (a ≠ b))) w := by
  obtain ⟨i, hi⟩ := info3'
  rw [run_neq_struct, run_equalIn_array w 9999 _ _ Try.underlying132 hi, cells3, eqItems_ints 9998 Try.underlying3 a b 8 ha hb w (List.range 8) (by intro j hj; simpa using hj)]
  simp only [Result.andThen_ok]
  congr 2
  rw [Bool.eq_iff_iff]
  simp only [Bool.not_eq_true', decide_eq_true_eq, ne_eq, ← Bool.not_eq_true]
  refine not_congr ?_
  simp only [List.all_eq_true, List.mem_range, beq_iff_eq]
  constructor
  · intro h
    apply List.ext_getElem?
    intro j
    by_cases hj : j < 8
    · exact h j hj
    · rw [List.getElem?_eq_none (by omega), List.getElem?_eq_none (by omega)]
  · intro h j _; rw [h]
theorem guard132 (op : BinOp) (x y : Operand) (a b : Array Value) (w : World) : (eqGuard op 132 x y (.agg a) (.agg b)).run Try.prog w = .ok () w := run_eqGuard_agg w op 132 x y a b (by kernel_rfl)

theorem touched_iff {r : Rq} : (plP r ≠ freshL r.place.length) ↔ ∃ x ∈ r.place, x ≠ 0 := by
  unfold plP freshL
  rw [ne_eq, List.append_cancel_right_eq]
  constructor
  · intro h
    apply Classical.byContradiction
    intro hn
    apply h
    apply List.ext_getElem
    · simp
    · intro i h1 h2
      simp
      have hx : ¬ (r.place[i]'(by simpa using h1) ≠ 0) := fun hx => hn ⟨_, List.getElem_mem _, hx⟩
      omega
  · rintro ⟨x, hx, h0⟩ h
    obtain ⟨i, hi, rfl⟩ := List.getElem_of_mem hx
    have := congrArg (·[i]?) h
    simp [hi] at this
    omega

theorem eight' {l : List Value} (h : l.length = 8) : ∃ a b c d e f g i, l = [a, b, c, d, e, f, g, i] := by
  match l, h with
  | [a, b, c, d, e, f, g, i], _ => exact ⟨a, b, c, d, e, f, g, i, rfl⟩
theorem eight {l : List Int} (h : l.length = 8) : ∃ a b c d e f g i, l = [a, b, c, d, e, f, g, i] := by
  match l, h with
  | [a, b, c, d, e, f, g, i], _ => exact ⟨a, b, c, d, e, f, g, i, rfl⟩
set_option maxRecDepth 20000 in
set_option maxHeartbeats 1000000 in
theorem touched_any (w : World) (p m : Nat) (kv : Value) (T : Tab) (h : IsTab w p m kv T) (hw : T.wf) (id : Int) :
    Calls Try.prog 25 #[.pointer (some ⟨p, 0, none⟩), .int .i64 id] w fun e w' => e = .returned (.bool (T.touched id)) ∧ Keep (fun _ => False) w w' := by
  have c1 := cell_of h.tab (i := 1) rfl
  cases hf : afind T.R id with
  | none =>
    have hg := Lib.hid (show afind (rqM T.R) id = none by rw [rqM, afind_map, hf]; rfl)
    have hc := Lib.hid (show T.touched id = false by simp [Tab.touched, hf])
    clear hf
    go_enter Try.func25, Try.ntmps25
    go_wp2_with (first
      | (at_lookup; refine wpList_lookupK_none _ rfl (.tmp 11) (.tmp 12) 121 rfl keyI Try.underlying121 m _ h.map _ (zero134 _) id hg.out rfl rfl ?_)
      | (refine wpList_store_new _ rfl 134 (.tmp 5) (.tmp 14) rfl _ _ rfl rfl rfl size134 (rqCells_one _) ?_))
    go_quiet (fail)
    go_wp2
    go_ret
    exact ⟨ret_bool hc.out.symm, ((Keep.refl _ w).alloc _).drewN _⟩
  | some r =>
    have hr : r.wf := hw.req (id, r) (mem_of_afind hf)
    have hg := Lib.hid (show afind (rqM T.R) id = some (encRq r) by rw [rqM, afind_map, hf]; rfl)
    have HL := Lib.hid (rqCells_len hr)
    have hc := Lib.hid (show T.touched id = decide (plP r ≠ freshL r.place.length) by simp only [Tab.touched, hf]; exact decide_eq_decide.2 touched_iff.symm)
    clear hf
    obtain ⟨w0, hw0⟩ : ∃ w0, w0 = w.alloc (.cells (rqCells r).toArray 134) := ⟨_, rfl⟩
    have hB : w0.heap[w.heap.size]? = some (.cells (rqCells r).toArray 134 (0, 0)) := by rw [hw0]; exact block_new _ _
    have hk0 := Lib.hid (show Keep (fun _ => False) w w0 by rw [hw0]; exact (Keep.refl _ _).alloc _)
    have Hw0 := Lib.hid hw0.symm; clear hw0
    obtain ⟨x1, x2, x3, x4, x5, x6, x7, x8, hx⟩ := eight (plP_len hr)
    obtain ⟨y1, y2, y3, y4, y5, y6, y7, y8, hy⟩ := eight' (show (u64V (vlP r)).length = 8 by rw [u64V_len, vlP_len hr])
    have hrq : rqCells r = [.int .i64 r.kind, .int .i64 x1, .int .i64 x2, .int .i64 x3, .int .i64 x4, .int .i64 x5, .int .i64 x6, .int .i64 x7, .int .i64 x8, y1, y2, y3, y4, y5, y6, y7, y8] := by rw [rqCells, hx, hy]; rfl
    have hS0 := Lib.hid (show ∀ w', Keep (fun _ => False) w0 w' → Keep (fun _ => False) w0 w' ∧ w'.cell? ⟨w.heap.size, 0, none⟩ = some (.int .i64 r.kind) ∧ w'.cell? ⟨w.heap.size, 1, none⟩ = some (.int .i64 x1) ∧ w'.cell? ⟨w.heap.size, 2, none⟩ = some (.int .i64 x2) ∧ w'.cell? ⟨w.heap.size, 3, none⟩ = some (.int .i64 x3) ∧ w'.cell? ⟨w.heap.size, 4, none⟩ = some (.int .i64 x4) ∧ w'.cell? ⟨w.heap.size, 5, none⟩ = some (.int .i64 x5) ∧ w'.cell? ⟨w.heap.size, 6, none⟩ = some (.int .i64 x6) ∧ w'.cell? ⟨w.heap.size, 7, none⟩ = some (.int .i64 x7) ∧ w'.cell? ⟨w.heap.size, 8, none⟩ = some (.int .i64 x8) ∧ w'.cell? ⟨w.heap.size, 9, none⟩ = some (y1) ∧ w'.cell? ⟨w.heap.size, 10, none⟩ = some (y2) ∧ w'.cell? ⟨w.heap.size, 11, none⟩ = some (y3) ∧ w'.cell? ⟨w.heap.size, 12, none⟩ = some (y4) ∧ w'.cell? ⟨w.heap.size, 13, none⟩ = some (y5) ∧ w'.cell? ⟨w.heap.size, 14, none⟩ = some (y6) ∧ w'.cell? ⟨w.heap.size, 15, none⟩ = some (y7) ∧ w'.cell? ⟨w.heap.size, 16, none⟩ = some (y8) from fun w' hk => ⟨hk, by
      have hR := block_keep hB hk (fun f => f)
      rw [hrq] at hR
      exact ⟨cell_of hR (i := 0) rfl, cell_of hR (i := 1) rfl, cell_of hR (i := 2) rfl, cell_of hR (i := 3) rfl, cell_of hR (i := 4) rfl, cell_of hR (i := 5) rfl, cell_of hR (i := 6) rfl, cell_of hR (i := 7) rfl, cell_of hR (i := 8) rfl, cell_of hR (i := 9) rfl, cell_of hR (i := 10) rfl, cell_of hR (i := 11) rfl, cell_of hR (i := 12) rfl, cell_of hR (i := 13) rfl, cell_of hR (i := 14) rfl, cell_of hR (i := 15) rfl, cell_of hR (i := 16) rfl⟩⟩)
    have hsz := Lib.hid (show ∀ w, Calls Try.prog 73 #[.agg #[.int .i64 r.kind, .int .i64 x1, .int .i64 x2, .int .i64 x3, .int .i64 x4, .int .i64 x5, .int .i64 x6, .int .i64 x7, .int .i64 x8, y1, y2, y3, y4, y5, y6, y7, y8]] w fun e w' => e = .returned (.int .i64 r.place.length) ∧ w.alloc (.cells (rqCells r).toArray 134) = w' from fun w => by
      have := size_any r hr w
      rw [encRq, hrq] at this; rw [hrq]; exact this)
    have hne : ∀ w, (binOp .neq 132 (.agg #[.int .i64 x1, .int .i64 x2, .int .i64 x3, .int .i64 x4, .int .i64 x5, .int .i64 x6, .int .i64 x7, .int .i64 x8]) (.agg (intsV (freshL r.place.length)).toArray)).run Try.prog w = .ok (.bool (decide (plP r ≠ freshL r.place.length))) w := by
      intro w
      have := neq132 (plP r) (freshL r.place.length) (plP_len hr) (by have := hr.hi; simp [freshL]; omega) w
      rw [← this]
      congr 3
      rw [hx]; rfl
    clear hx hy hrq
    have hgd := guard132
    go_enter Try.func25, Try.ntmps25
    go_wp2_with (first
      | (at_lookup; refine wpList_lookupK_some _ rfl (.tmp 11) (.tmp 12) 121 rfl keyI Try.underlying121 m _ h.map _ (zero134 _) id (encRq r) hg.out rfl rfl ?_)
      | (refine wpList_store_new _ rfl 134 (.tmp 5) (.tmp 14) rfl _ (rqCells r).toArray rfl rfl (by simp only [List.size_toArray, HL.out]; rfl) (by rw [List.size_toArray, HL.out]; exact size134) (rqCells_one _) ?_; rw [Hw0.out]))
    go_region_held3 (fun w' => Keep (fun _ => False) w0 w' ∧ w'.cell? ⟨w.heap.size, 0, none⟩ = some (.int .i64 r.kind) ∧ w'.cell? ⟨w.heap.size, 1, none⟩ = some (.int .i64 x1) ∧ w'.cell? ⟨w.heap.size, 2, none⟩ = some (.int .i64 x2) ∧ w'.cell? ⟨w.heap.size, 3, none⟩ = some (.int .i64 x3) ∧ w'.cell? ⟨w.heap.size, 4, none⟩ = some (.int .i64 x4) ∧ w'.cell? ⟨w.heap.size, 5, none⟩ = some (.int .i64 x5) ∧ w'.cell? ⟨w.heap.size, 6, none⟩ = some (.int .i64 x6) ∧ w'.cell? ⟨w.heap.size, 7, none⟩ = some (.int .i64 x7) ∧ w'.cell? ⟨w.heap.size, 8, none⟩ = some (.int .i64 x8) ∧ w'.cell? ⟨w.heap.size, 9, none⟩ = some (y1) ∧ w'.cell? ⟨w.heap.size, 10, none⟩ = some (y2) ∧ w'.cell? ⟨w.heap.size, 11, none⟩ = some (y3) ∧ w'.cell? ⟨w.heap.size, 12, none⟩ = some (y4) ∧ w'.cell? ⟨w.heap.size, 13, none⟩ = some (y5) ∧ w'.cell? ⟨w.heap.size, 14, none⟩ = some (y6) ∧ w'.cell? ⟨w.heap.size, 15, none⟩ = some (y7) ∧ w'.cell? ⟨w.heap.size, 16, none⟩ = some (y8))
      (first | (refine hS0.out _ ?_; first | assumption | ((repeat (first | refine Keep.drew ?_ | refine Keep.alloc ?_ _)); first | exact Keep.refl _ _ | assumption | (refine Keep.seq ?_ (by assumption); (repeat (first | refine Keep.drew ?_ | refine Keep.alloc ?_ _)); first | exact Keep.refl _ _ | assumption))))
      (first
        | (go_at_call 73; refine (hsz.out _).mono ?_; rintro e w1 ⟨rfl, rfl⟩)
        | (go_at_call 72; refine (fresh_any _ _ (by have := hr.lo; omega) (by have := hr.hi; omega)).mono ?_; rintro e w1 ⟨rfl, hk1⟩))
    all_goals
      go_wp2
      go_ret
      exact ⟨ret_bool (by rw [hc.out]; simp), hk0.out.seq (And.left (by assumption))⟩
end Go.Proofs.Xw
