import Derived.Test.YthfeohfahncfdaaXwValues
import Derived.Deep.RegionHeld3
namespace Go.Proofs.Xw
open Go.RowKit Go.Xw

theorem min0 (ts : Array TypeId) (t : TypeId) (W : World) : (Builtin.min_ ts t #[.int .i64 0, .int .i64 1]).run Try.prog W = .ok (.int .i64 0) W := by kernel_rfl
theorem min1 {l : Nat} (h : (1 : Int) ≤ l) (ts : Array TypeId) (t : TypeId) (W : World) : (Builtin.min_ ts t #[.int .i64 l, .int .i64 1]).run Try.prog W = .ok (.int .i64 1) W := by
  rw [run_min_int2]
  by_cases h1 : (1 : Int) < l
  · rw [if_pos h1]
  · rw [if_neg h1, show (l : Int) = 1 by omega]
theorem values_cell {w wr : World} {V : List Int} (hV : V.length = 8) (hk : Keep (fun _ => False) (w.alloc (.cells (u64V V).toArray 55)) wr) {K : Nat} (h : K < 8) : wr.cell? ⟨w.heap.size, K, none⟩ = some (.int .u64 (V.getD K 0)) := by
  refine cell_of (block_keep (block_new w (.cells (u64V V).toArray 55)) hk (fun f => f)) ?_
  simp [u64V, List.getElem?_eq_getElem (show K < V.length by omega)]

theorem values_ans {W : World} {B X n : Nat} {V : List Int} {kv : Value} (hV : V.length = 8) (hn : n ≤ 8) (hB : W.heap[B]? = some (.cells (u64V V).toArray 55 (0, 0)))
    (hX : W.heap[X]? = some (.cells #[.int .i64 3, .int .i64 0, .slice (some ⟨B, 0, none⟩) n 8] 49 (0, 0))) (hR : AnsR W kv [⟨3, 0, V.take n⟩]) :
    Calls Try.prog 29 #[kv, .slice (some ⟨X, 0, none⟩) 1 1] W fun e w' => e = .returned (.bool true) ∧ Keep (fun _ => False) W w' := by
  have hS : AnsR W (.slice (some ⟨X, 0, none⟩) 1 1) [⟨3, 0, V.take n⟩] := by
    refine ⟨[.slice (some ⟨B, 0, none⟩) n 8], rfl, ⟨rfl, .inr ⟨X, 0, 1, rfl, by simp, by decide, lt_of hX, fun j v hv => cell_of hX (by rw [Nat.zero_add, List.getElem?_toArray]; exact hv)⟩⟩, ?_⟩
    intro i a u ha hu
    match i, ha, hu with
    | 0, ha, hu =>
      cases ha; cases hu
      have hl : (V.take n).length = n := by simp; omega
      refine ⟨by simp [u64V], .inr ⟨B, 0, 8, by rw [hl], by rw [hl]; exact hn, by decide, lt_of hB, fun j v hv => cell_of hB ?_⟩⟩
      rw [Nat.zero_add, List.getElem?_toArray]
      simp only [u64V, List.getElem?_map] at hv ⊢
      have hj : j < n := by
        apply Classical.byContradiction
        intro h
        rw [List.getElem?_eq_none (by simp; omega)] at hv; cases hv
      rw [List.getElem?_take_of_lt hj] at hv; exact hv
  refine (answers_any W _ _ _ _ hR hS).mono ?_
  rintro e w' ⟨rfl, h⟩
  exact ⟨ret_bool (by simp), h⟩

theorem values_ansA {w w5 : World} {n : Nat} {V : List Int} {kv : Value} (hV : V.length = 8) (hn : n ≤ 8) (hk : Keep (fun _ => False) (w.alloc (.cells (u64V V).toArray 55)) w5) (hR : AnsR w5 kv [⟨3, 0, V.take n⟩]) :
    Calls Try.prog 29 #[kv, .slice (some ⟨w5.heap.size, 0, none⟩) 1 1] (w5.alloc (.cells #[.int .i64 3, .int .i64 0, .slice (some ⟨w.heap.size, 0, none⟩) n 8] 49)) fun e w' => e = .returned (.bool true) ∧ Keep (fun _ => False) w5 w' :=
  (values_ans hV hn (block_keep (block_new w (.cells (u64V V).toArray 55)) (hk.alloc _) (fun f => f)) (block_new _ _) (hR.keep0 ((Keep.refl _ _).alloc _))).mono fun _ _ ⟨h1, h2⟩ => ⟨h1, ((Keep.refl _ w5).alloc _).seq h2⟩
theorem values_ansB {w wr w5 : World} {n p : Nat} {V : List Int} {kv : Value} (hV : V.length = 8) (hn : n ≤ 8) (hk : Keep (fun _ => False) (w.alloc (.cells (u64V V).toArray 55)) w5)
    (hk5 : Keep (fun k => k = p) (wr.alloc (.cells #[.int .i64 3, .int .i64 0, .slice (some ⟨w.heap.size, 0, none⟩) n 8] 49)).drew w5) (hp : p < wr.heap.size) (hR : AnsR w5 kv [⟨3, 0, V.take n⟩]) :
    Calls Try.prog 29 #[kv, .slice (some ⟨wr.heap.size, 0, none⟩) 1 1] w5 fun e w' => e = .returned (.bool true) ∧ Keep (fun _ => False) w5 w' :=
  values_ans hV hn (block_keep (block_new w (.cells (u64V V).toArray 55)) hk (fun f => f)) (block_keep (w := (wr.alloc _).drew) (block_new wr (.cells #[.int .i64 3, .int .i64 0, .slice (some ⟨w.heap.size, 0, none⟩) n 8] 49)) hk5 (fun e => by omega)) hR

set_option maxRecDepth 20000 in
set_option maxHeartbeats 2000000 in
theorem values_walk (w : World) (V : List Int) (hV : V.length = 8) (many first : Int) (hm : 0 ≤ many ∧ many ≤ 255) (hf : 0 ≤ first ∧ first ≤ 255) :
    Calls Try.prog 7 #[.agg (u64V V).toArray, .int .u8 many, .int .u8 first] w fun e w' => e = .returned (.bool true) ∧ Keep (fun _ => False) w w' := by
  obtain ⟨n, hn⟩ : ∃ n : Nat, 1 + many % 8 = (n : Int) := ⟨(1 + many % 8).toNat, by omega⟩
  obtain ⟨a, ha⟩ : ∃ a : Nat, first % 8 = (a : Int) := ⟨(first % 8).toNat, by omega⟩
  have hn8 : 1 ≤ n ∧ n ≤ 8 := by omega
  have ha8 : a < 8 := by omega
  have HV := Lib.hid hV; clear hV
  go_enter Try.func7, Try.ntmps7
  have hq : first / 8 % 4 = 0 ∨ first / 8 % 4 = 1 ∨ first / 8 % 4 = 2 ∨ first / 8 % 4 = 3 := by omega
  have HO := Lib.hid (fun b (hb : b ∈ [1, 3, 5, 7]) => VT_start (V := V) (b := b) hn8.1 hn8.2 (vends a ha8 b hb n (by omega)).2)
  rcases hq with hq | hq | hq | hq
  · go_wp2_with (first
      | (go_at_call 18; refine (awake_any _ _ (Keep.refl _ _)).mono ?_; rintro e w1 ⟨rfl, hk1⟩)
      | (go_at_call 19; refine (live_new (w0 := w.alloc (.cells (u64V V).toArray 55)) hk1 1 (by decide) (by decide)).mono ?_; rintro e w2 ⟨p, m, rfl, h0, -, -, -⟩)
      | (go_at_call 32; refine (live_open h0 3 1 n).mono ?_; rintro e w3 ⟨rfl, kv', hL, -⟩; rw [(HO.out 1 (by decide)).1]; rw [(HO.out 1 (by decide)).2] at hL))
    rw [ha, hq]
    have hL := hL.quiet ((Keep.refl _ w3).alloc (.cells #[.int .i64 1, .int .i64 3, .int .i64 5, .int .i64 7] 3))
    go_loopw [6, 12, 13] (fun _ l i wr => ∃ (j : Nat) (kv : Value), j ≤ 8 ∧ i = .int .i64 j ∧ l = .int .i64 (vleft a 1 n j) ∧ Live (w.alloc (.cells (u64V V).toArray 55)) wr p m kv (VT V a 1 n j)) (fun _ _ i _ => 20 - (intOf i).toNat)
    case atStart => exact ⟨0, _, by omega, rfl, by rw [(vends a ha8 1 (by decide) n (by omega)).2], hL⟩
    case round =>
      obtain ⟨j, kv, hj, rfl, rfl, hL⟩ := hrel
      by_cases hlt : (j : Int) < 8
      · obtain ⟨K, hK⟩ : ∃ K, vk a 1 j = K := ⟨_, rfl⟩
        have hk : ((a : Int) + (j : Int)) % 8 = (K : Int) := by rw [← hK, vk]; omega
        have hK8 : K < 8 := by rw [← hK, vk]; omega
        have c := values_cell HV.out hL.keep hK8
        have hvf := vfacts a ha8 1 (by decide) n (by omega) j (by omega)
        rw [vfact, hK] at hvf
        obtain ⟨l0, hl0⟩ : ∃ l, vleft a 1 n j = l := ⟨_, rfl⟩
        obtain ⟨l1, hl1⟩ : ∃ l, vleft a 1 n (j + 1) = l := ⟨_, rfl⟩
        rw [hl0, hl1] at hvf
        rw [hl0]
        have hl8 : l0 ≤ 8 := by rw [← hl0, vleft]; exact Nat.le_trans (List.length_filter_le _ _) (by simp; omega)
        by_cases hkn : K < n
        · rw [if_pos hkn] at hvf
          simp only [Bool.and_eq_true, beq_iff_eq, Bool.not_eq_true'] at hvf
          have HG := Lib.hid (VT_give (V := V) (a := a) (b := 1) (n := n) (i := j) (by rw [HV.out]; omega) (by rw [hK]; exact hkn) (by rw [hK]; exact hvf.1) (by rw [hl0, hl1]; exact hvf.2))
          rw [hK] at HG
          have hRl := VT_len V a 1 n (j + 1)
          rw [hl1] at hRl
          have HT := Lib.hid (show (VT V a 1 n (j + 1)).touched 3 = decide (0 < l1) by rw [VT_touched (by rw [hK]; exact hkn), hl1])
          have hl : l0 = l1 + 1 := hvf.2.symm
          have Hl1 := Lib.hid hl1
          subst hl
          clear hvf hl0 hl1
          have hK' := Lib.hid hK; clear hK
          have hkn' : (K : Int) < n := by omega
          by_cases hz : l1 = 0
          · subst hz
            have HN := Lib.hid (show (VT V a 1 n (j + 1)).R.length = 0 by omega)
            have hmin := min0
            clear hRl
            go_wp2_with (first | (go_at_call 33; refine (live_give hL (VT_kept _ _ _ _ _) 3 K (V.getD K 0)).mono ?_; rintro e w4 ⟨rfl, kv4, hL4, -⟩; rw [HG.out.1]; rw [HG.out.2] at hL4) | (go_at_call 23; refine (live_pending hL4 (VT_ids _ _ _ _ _) (VT_len16 _ _ _ _ _)).mono ?_; rintro e w5 ⟨qa, qc, rfl, -, hL5, -⟩; rw [HN.out]) | (go_at_call 25; refine (live_touched hL5 3).mono ?_; rintro e w6 ⟨rfl, hL6, -⟩; rw [HT.out]))
            go_roundw
            case rel => exact ⟨j + 1, _, by omega, by go_num, by rw [Hl1.out]; rfl, hL6⟩
            case measure => simp [intOf]; omega
          · have HN := Lib.hid (show (VT V a 1 n (j + 1)).R.length = 1 by omega)
            have hz1 : (0 : Int) < l1 := by omega
            have hz2 : (1 : Int) ≤ l1 := by omega
            have hz3 : decide (0 < l1) = true := by simp; omega
            have hmin := @min1 l1 hz2
            clear hRl
            go_wp2_with (first | (go_at_call 33; refine (live_give hL (VT_kept _ _ _ _ _) 3 K (V.getD K 0)).mono ?_; rintro e w4 ⟨rfl, kv4, hL4, -⟩; rw [HG.out.1]; rw [HG.out.2] at hL4) | (go_at_call 23; refine (live_pending hL4 (VT_ids _ _ _ _ _) (VT_len16 _ _ _ _ _)).mono ?_; rintro e w5 ⟨qa, qc, rfl, -, hL5, -⟩; rw [HN.out]) | (go_at_call 25; refine (live_touched hL5 3).mono ?_; rintro e w6 ⟨rfl, hL6, -⟩; rw [HT.out]))
            go_roundw
            case rel => exact ⟨j + 1, _, by omega, by go_num, by rw [Hl1.out], hL6⟩
            case measure => simp [intOf]; omega
        · rw [if_neg hkn] at hvf
          simp only [beq_iff_eq] at hvf
          have HG := Lib.hid (VT_arg (V := V) (a := a) (b := 1) (n := n) (i := j) (by rw [hK]; exact hkn) (by rw [hl0, hl1]; exact hvf))
          rw [hK, hl0] at HG
          have Hl1 := Lib.hid (hl1.trans hvf)
          clear hvf hl0 hl1 hK
          have hkn' : (n : Int) ≤ K := by omega
          by_cases hz : l0 = 0
          · subst hz
            rw [if_pos rfl] at HG
            go_wp2_with (go_at_call 33; refine (live_give hL (VT_kept _ _ _ _ _) 3 K (V.getD K 0)).mono ?_; rintro e w4 ⟨rfl, kv4, hL4, -⟩; rw [HG.out.1]; rw [HG.out.2] at hL4)
            go_roundw
            case rel => exact ⟨j + 1, _, by omega, by go_num, by rw [Hl1.out]; rfl, hL4⟩
            case measure => simp [intOf]; omega
          · rw [if_neg hz] at HG
            have hz1 : (0 : Int) < l0 := by omega
            have hz2 : ¬ (l0 : Int) = 0 := by omega
            go_wp2_with (go_at_call 33; refine (live_give hL (VT_kept _ _ _ _ _) 3 K (V.getD K 0)).mono ?_; rintro e w4 ⟨rfl, kv4, hL4, -⟩; rw [HG.out.1]; rw [HG.out.2] at hL4)
            go_roundw
            case rel => exact ⟨j + 1, _, by omega, by go_num, by rw [Hl1.out], hL4⟩
            case measure => simp [intOf]; omega
      · have hj8 : j = 8 := by omega
        subst hj8
        have hz := (vends a ha8 1 (by decide) n (by omega)).1
        have HT := Lib.hid (show VT V a 1 n 8 = ⟨1, [], [⟨3, 0, V.take n⟩]⟩ by rw [VT, if_pos hz])
        rw [HT.out] at hL
        rw [hz]
        have hbox := Lib.hid (block_keep (block_new w (.cells (u64V V).toArray 55)) hL.keep (fun f => f))
        clear HT hz
        go_wp2_with fail
        have hVl := HV.out
        have hn1 : (n : Int) ≤ 8 := by omega
        go_region_held3 (fun _ => True) (trivial) (first
          | (go_at_call 30; refine (live_take (hL.quiet (Keep.refl _ wr).drew)).mono ?_; rintro e w5 ⟨rfl, hR, hL5, hk5⟩)
          | (go_at_call 30; refine (live_take (hL.quiet ((Keep.refl _ wr).alloc _).drew)).mono ?_; rintro e w5 ⟨rfl, hR, hL5, hk5⟩)
          | (go_at_call 29; refine calls_args #[kv, .slice (some ⟨w5.heap.size, 0, none⟩) 1 1] (by with_reducible rfl) ?_; refine (values_ansA HV.out hn8.2 hL5.keep hR).mono ?_; rintro e w6 ⟨rfl, hk6⟩; have hL6 := hL5.quiet hk6)
          | (go_at_call 29; refine calls_args #[kv, .slice (some ⟨wr.heap.size, 0, none⟩) 1 1] (by with_reducible rfl) ?_; refine (values_ansB HV.out hn8.2 hL5.keep hk5 (by have := lt_of hL.tab.tab; omega) hR).mono ?_; rintro e w6 ⟨rfl, hk6⟩; have hL6 := hL5.quiet hk6))
        all_goals
          go_wp2
          go_ret
          exact ⟨rfl, ((Keep.refl _ w).alloc _).seq hL6.keep⟩
  · go_wp2_with (first
      | (go_at_call 18; refine (awake_any _ _ (Keep.refl _ _)).mono ?_; rintro e w1 ⟨rfl, hk1⟩)
      | (go_at_call 19; refine (live_new (w0 := w.alloc (.cells (u64V V).toArray 55)) hk1 1 (by decide) (by decide)).mono ?_; rintro e w2 ⟨p, m, rfl, h0, -, -, -⟩)
      | (go_at_call 32; refine (live_open h0 3 1 n).mono ?_; rintro e w3 ⟨rfl, kv', hL, -⟩; rw [(HO.out 3 (by decide)).1]; rw [(HO.out 3 (by decide)).2] at hL))
    rw [ha, hq]
    have hL := hL.quiet ((Keep.refl _ w3).alloc (.cells #[.int .i64 1, .int .i64 3, .int .i64 5, .int .i64 7] 3))
    go_loopw [6, 12, 13] (fun _ l i wr => ∃ (j : Nat) (kv : Value), j ≤ 8 ∧ i = .int .i64 j ∧ l = .int .i64 (vleft a 3 n j) ∧ Live (w.alloc (.cells (u64V V).toArray 55)) wr p m kv (VT V a 3 n j)) (fun _ _ i _ => 20 - (intOf i).toNat)
    case atStart => exact ⟨0, _, by omega, rfl, by rw [(vends a ha8 3 (by decide) n (by omega)).2], hL⟩
    case round =>
      obtain ⟨j, kv, hj, rfl, rfl, hL⟩ := hrel
      by_cases hlt : (j : Int) < 8
      · obtain ⟨K, hK⟩ : ∃ K, vk a 3 j = K := ⟨_, rfl⟩
        have hk : ((a : Int) + (j : Int) * 3) % 8 = (K : Int) := by rw [← hK, vk]; omega
        have hK8 : K < 8 := by rw [← hK, vk]; omega
        have c := values_cell HV.out hL.keep hK8
        have hvf := vfacts a ha8 3 (by decide) n (by omega) j (by omega)
        rw [vfact, hK] at hvf
        obtain ⟨l0, hl0⟩ : ∃ l, vleft a 3 n j = l := ⟨_, rfl⟩
        obtain ⟨l1, hl1⟩ : ∃ l, vleft a 3 n (j + 1) = l := ⟨_, rfl⟩
        rw [hl0, hl1] at hvf
        rw [hl0]
        have hl8 : l0 ≤ 8 := by rw [← hl0, vleft]; exact Nat.le_trans (List.length_filter_le _ _) (by simp; omega)
        by_cases hkn : K < n
        · rw [if_pos hkn] at hvf
          simp only [Bool.and_eq_true, beq_iff_eq, Bool.not_eq_true'] at hvf
          have HG := Lib.hid (VT_give (V := V) (a := a) (b := 3) (n := n) (i := j) (by rw [HV.out]; omega) (by rw [hK]; exact hkn) (by rw [hK]; exact hvf.1) (by rw [hl0, hl1]; exact hvf.2))
          rw [hK] at HG
          have hRl := VT_len V a 3 n (j + 1)
          rw [hl1] at hRl
          have HT := Lib.hid (show (VT V a 3 n (j + 1)).touched 3 = decide (0 < l1) by rw [VT_touched (by rw [hK]; exact hkn), hl1])
          have hl : l0 = l1 + 1 := hvf.2.symm
          have Hl1 := Lib.hid hl1
          subst hl
          clear hvf hl0 hl1
          have hK' := Lib.hid hK; clear hK
          have hkn' : (K : Int) < n := by omega
          by_cases hz : l1 = 0
          · subst hz
            have HN := Lib.hid (show (VT V a 3 n (j + 1)).R.length = 0 by omega)
            have hmin := min0
            clear hRl
            go_wp2_with (first | (go_at_call 33; refine (live_give hL (VT_kept _ _ _ _ _) 3 K (V.getD K 0)).mono ?_; rintro e w4 ⟨rfl, kv4, hL4, -⟩; rw [HG.out.1]; rw [HG.out.2] at hL4) | (go_at_call 23; refine (live_pending hL4 (VT_ids _ _ _ _ _) (VT_len16 _ _ _ _ _)).mono ?_; rintro e w5 ⟨qa, qc, rfl, -, hL5, -⟩; rw [HN.out]) | (go_at_call 25; refine (live_touched hL5 3).mono ?_; rintro e w6 ⟨rfl, hL6, -⟩; rw [HT.out]))
            go_roundw
            case rel => exact ⟨j + 1, _, by omega, by go_num, by rw [Hl1.out]; rfl, hL6⟩
            case measure => simp [intOf]; omega
          · have HN := Lib.hid (show (VT V a 3 n (j + 1)).R.length = 1 by omega)
            have hz1 : (0 : Int) < l1 := by omega
            have hz2 : (1 : Int) ≤ l1 := by omega
            have hz3 : decide (0 < l1) = true := by simp; omega
            have hmin := @min1 l1 hz2
            clear hRl
            go_wp2_with (first | (go_at_call 33; refine (live_give hL (VT_kept _ _ _ _ _) 3 K (V.getD K 0)).mono ?_; rintro e w4 ⟨rfl, kv4, hL4, -⟩; rw [HG.out.1]; rw [HG.out.2] at hL4) | (go_at_call 23; refine (live_pending hL4 (VT_ids _ _ _ _ _) (VT_len16 _ _ _ _ _)).mono ?_; rintro e w5 ⟨qa, qc, rfl, -, hL5, -⟩; rw [HN.out]) | (go_at_call 25; refine (live_touched hL5 3).mono ?_; rintro e w6 ⟨rfl, hL6, -⟩; rw [HT.out]))
            go_roundw
            case rel => exact ⟨j + 1, _, by omega, by go_num, by rw [Hl1.out], hL6⟩
            case measure => simp [intOf]; omega
        · rw [if_neg hkn] at hvf
          simp only [beq_iff_eq] at hvf
          have HG := Lib.hid (VT_arg (V := V) (a := a) (b := 3) (n := n) (i := j) (by rw [hK]; exact hkn) (by rw [hl0, hl1]; exact hvf))
          rw [hK, hl0] at HG
          have Hl1 := Lib.hid (hl1.trans hvf)
          clear hvf hl0 hl1 hK
          have hkn' : (n : Int) ≤ K := by omega
          by_cases hz : l0 = 0
          · subst hz
            rw [if_pos rfl] at HG
            go_wp2_with (go_at_call 33; refine (live_give hL (VT_kept _ _ _ _ _) 3 K (V.getD K 0)).mono ?_; rintro e w4 ⟨rfl, kv4, hL4, -⟩; rw [HG.out.1]; rw [HG.out.2] at hL4)
            go_roundw
            case rel => exact ⟨j + 1, _, by omega, by go_num, by rw [Hl1.out]; rfl, hL4⟩
            case measure => simp [intOf]; omega
          · rw [if_neg hz] at HG
            have hz1 : (0 : Int) < l0 := by omega
            have hz2 : ¬ (l0 : Int) = 0 := by omega
            go_wp2_with (go_at_call 33; refine (live_give hL (VT_kept _ _ _ _ _) 3 K (V.getD K 0)).mono ?_; rintro e w4 ⟨rfl, kv4, hL4, -⟩; rw [HG.out.1]; rw [HG.out.2] at hL4)
            go_roundw
            case rel => exact ⟨j + 1, _, by omega, by go_num, by rw [Hl1.out], hL4⟩
            case measure => simp [intOf]; omega
      · have hj8 : j = 8 := by omega
        subst hj8
        have hz := (vends a ha8 3 (by decide) n (by omega)).1
        have HT := Lib.hid (show VT V a 3 n 8 = ⟨1, [], [⟨3, 0, V.take n⟩]⟩ by rw [VT, if_pos hz])
        rw [HT.out] at hL
        rw [hz]
        have hbox := Lib.hid (block_keep (block_new w (.cells (u64V V).toArray 55)) hL.keep (fun f => f))
        clear HT hz
        go_wp2_with fail
        have hVl := HV.out
        have hn1 : (n : Int) ≤ 8 := by omega
        go_region_held3 (fun _ => True) (trivial) (first
          | (go_at_call 30; refine (live_take (hL.quiet (Keep.refl _ wr).drew)).mono ?_; rintro e w5 ⟨rfl, hR, hL5, hk5⟩)
          | (go_at_call 30; refine (live_take (hL.quiet ((Keep.refl _ wr).alloc _).drew)).mono ?_; rintro e w5 ⟨rfl, hR, hL5, hk5⟩)
          | (go_at_call 29; refine calls_args #[kv, .slice (some ⟨w5.heap.size, 0, none⟩) 1 1] (by with_reducible rfl) ?_; refine (values_ansA HV.out hn8.2 hL5.keep hR).mono ?_; rintro e w6 ⟨rfl, hk6⟩; have hL6 := hL5.quiet hk6)
          | (go_at_call 29; refine calls_args #[kv, .slice (some ⟨wr.heap.size, 0, none⟩) 1 1] (by with_reducible rfl) ?_; refine (values_ansB HV.out hn8.2 hL5.keep hk5 (by have := lt_of hL.tab.tab; omega) hR).mono ?_; rintro e w6 ⟨rfl, hk6⟩; have hL6 := hL5.quiet hk6))
        all_goals
          go_wp2
          go_ret
          exact ⟨rfl, ((Keep.refl _ w).alloc _).seq hL6.keep⟩
  · go_wp2_with (first
      | (go_at_call 18; refine (awake_any _ _ (Keep.refl _ _)).mono ?_; rintro e w1 ⟨rfl, hk1⟩)
      | (go_at_call 19; refine (live_new (w0 := w.alloc (.cells (u64V V).toArray 55)) hk1 1 (by decide) (by decide)).mono ?_; rintro e w2 ⟨p, m, rfl, h0, -, -, -⟩)
      | (go_at_call 32; refine (live_open h0 3 1 n).mono ?_; rintro e w3 ⟨rfl, kv', hL, -⟩; rw [(HO.out 5 (by decide)).1]; rw [(HO.out 5 (by decide)).2] at hL))
    rw [ha, hq]
    have hL := hL.quiet ((Keep.refl _ w3).alloc (.cells #[.int .i64 1, .int .i64 3, .int .i64 5, .int .i64 7] 3))
    go_loopw [6, 12, 13] (fun _ l i wr => ∃ (j : Nat) (kv : Value), j ≤ 8 ∧ i = .int .i64 j ∧ l = .int .i64 (vleft a 5 n j) ∧ Live (w.alloc (.cells (u64V V).toArray 55)) wr p m kv (VT V a 5 n j)) (fun _ _ i _ => 20 - (intOf i).toNat)
    case atStart => exact ⟨0, _, by omega, rfl, by rw [(vends a ha8 5 (by decide) n (by omega)).2], hL⟩
    case round =>
      obtain ⟨j, kv, hj, rfl, rfl, hL⟩ := hrel
      by_cases hlt : (j : Int) < 8
      · obtain ⟨K, hK⟩ : ∃ K, vk a 5 j = K := ⟨_, rfl⟩
        have hk : ((a : Int) + (j : Int) * 5) % 8 = (K : Int) := by rw [← hK, vk]; omega
        have hK8 : K < 8 := by rw [← hK, vk]; omega
        have c := values_cell HV.out hL.keep hK8
        have hvf := vfacts a ha8 5 (by decide) n (by omega) j (by omega)
        rw [vfact, hK] at hvf
        obtain ⟨l0, hl0⟩ : ∃ l, vleft a 5 n j = l := ⟨_, rfl⟩
        obtain ⟨l1, hl1⟩ : ∃ l, vleft a 5 n (j + 1) = l := ⟨_, rfl⟩
        rw [hl0, hl1] at hvf
        rw [hl0]
        have hl8 : l0 ≤ 8 := by rw [← hl0, vleft]; exact Nat.le_trans (List.length_filter_le _ _) (by simp; omega)
        by_cases hkn : K < n
        · rw [if_pos hkn] at hvf
          simp only [Bool.and_eq_true, beq_iff_eq, Bool.not_eq_true'] at hvf
          have HG := Lib.hid (VT_give (V := V) (a := a) (b := 5) (n := n) (i := j) (by rw [HV.out]; omega) (by rw [hK]; exact hkn) (by rw [hK]; exact hvf.1) (by rw [hl0, hl1]; exact hvf.2))
          rw [hK] at HG
          have hRl := VT_len V a 5 n (j + 1)
          rw [hl1] at hRl
          have HT := Lib.hid (show (VT V a 5 n (j + 1)).touched 3 = decide (0 < l1) by rw [VT_touched (by rw [hK]; exact hkn), hl1])
          have hl : l0 = l1 + 1 := hvf.2.symm
          have Hl1 := Lib.hid hl1
          subst hl
          clear hvf hl0 hl1
          have hK' := Lib.hid hK; clear hK
          have hkn' : (K : Int) < n := by omega
          by_cases hz : l1 = 0
          · subst hz
            have HN := Lib.hid (show (VT V a 5 n (j + 1)).R.length = 0 by omega)
            have hmin := min0
            clear hRl
            go_wp2_with (first | (go_at_call 33; refine (live_give hL (VT_kept _ _ _ _ _) 3 K (V.getD K 0)).mono ?_; rintro e w4 ⟨rfl, kv4, hL4, -⟩; rw [HG.out.1]; rw [HG.out.2] at hL4) | (go_at_call 23; refine (live_pending hL4 (VT_ids _ _ _ _ _) (VT_len16 _ _ _ _ _)).mono ?_; rintro e w5 ⟨qa, qc, rfl, -, hL5, -⟩; rw [HN.out]) | (go_at_call 25; refine (live_touched hL5 3).mono ?_; rintro e w6 ⟨rfl, hL6, -⟩; rw [HT.out]))
            go_roundw
            case rel => exact ⟨j + 1, _, by omega, by go_num, by rw [Hl1.out]; rfl, hL6⟩
            case measure => simp [intOf]; omega
          · have HN := Lib.hid (show (VT V a 5 n (j + 1)).R.length = 1 by omega)
            have hz1 : (0 : Int) < l1 := by omega
            have hz2 : (1 : Int) ≤ l1 := by omega
            have hz3 : decide (0 < l1) = true := by simp; omega
            have hmin := @min1 l1 hz2
            clear hRl
            go_wp2_with (first | (go_at_call 33; refine (live_give hL (VT_kept _ _ _ _ _) 3 K (V.getD K 0)).mono ?_; rintro e w4 ⟨rfl, kv4, hL4, -⟩; rw [HG.out.1]; rw [HG.out.2] at hL4) | (go_at_call 23; refine (live_pending hL4 (VT_ids _ _ _ _ _) (VT_len16 _ _ _ _ _)).mono ?_; rintro e w5 ⟨qa, qc, rfl, -, hL5, -⟩; rw [HN.out]) | (go_at_call 25; refine (live_touched hL5 3).mono ?_; rintro e w6 ⟨rfl, hL6, -⟩; rw [HT.out]))
            go_roundw
            case rel => exact ⟨j + 1, _, by omega, by go_num, by rw [Hl1.out], hL6⟩
            case measure => simp [intOf]; omega
        · rw [if_neg hkn] at hvf
          simp only [beq_iff_eq] at hvf
          have HG := Lib.hid (VT_arg (V := V) (a := a) (b := 5) (n := n) (i := j) (by rw [hK]; exact hkn) (by rw [hl0, hl1]; exact hvf))
          rw [hK, hl0] at HG
          have Hl1 := Lib.hid (hl1.trans hvf)
          clear hvf hl0 hl1 hK
          have hkn' : (n : Int) ≤ K := by omega
          by_cases hz : l0 = 0
          · subst hz
            rw [if_pos rfl] at HG
            go_wp2_with (go_at_call 33; refine (live_give hL (VT_kept _ _ _ _ _) 3 K (V.getD K 0)).mono ?_; rintro e w4 ⟨rfl, kv4, hL4, -⟩; rw [HG.out.1]; rw [HG.out.2] at hL4)
            go_roundw
            case rel => exact ⟨j + 1, _, by omega, by go_num, by rw [Hl1.out]; rfl, hL4⟩
            case measure => simp [intOf]; omega
          · rw [if_neg hz] at HG
            have hz1 : (0 : Int) < l0 := by omega
            have hz2 : ¬ (l0 : Int) = 0 := by omega
            go_wp2_with (go_at_call 33; refine (live_give hL (VT_kept _ _ _ _ _) 3 K (V.getD K 0)).mono ?_; rintro e w4 ⟨rfl, kv4, hL4, -⟩; rw [HG.out.1]; rw [HG.out.2] at hL4)
            go_roundw
            case rel => exact ⟨j + 1, _, by omega, by go_num, by rw [Hl1.out], hL4⟩
            case measure => simp [intOf]; omega
      · have hj8 : j = 8 := by omega
        subst hj8
        have hz := (vends a ha8 5 (by decide) n (by omega)).1
        have HT := Lib.hid (show VT V a 5 n 8 = ⟨1, [], [⟨3, 0, V.take n⟩]⟩ by rw [VT, if_pos hz])
        rw [HT.out] at hL
        rw [hz]
        have hbox := Lib.hid (block_keep (block_new w (.cells (u64V V).toArray 55)) hL.keep (fun f => f))
        clear HT hz
        go_wp2_with fail
        have hVl := HV.out
        have hn1 : (n : Int) ≤ 8 := by omega
        go_region_held3 (fun _ => True) (trivial) (first
          | (go_at_call 30; refine (live_take (hL.quiet (Keep.refl _ wr).drew)).mono ?_; rintro e w5 ⟨rfl, hR, hL5, hk5⟩)
          | (go_at_call 30; refine (live_take (hL.quiet ((Keep.refl _ wr).alloc _).drew)).mono ?_; rintro e w5 ⟨rfl, hR, hL5, hk5⟩)
          | (go_at_call 29; refine calls_args #[kv, .slice (some ⟨w5.heap.size, 0, none⟩) 1 1] (by with_reducible rfl) ?_; refine (values_ansA HV.out hn8.2 hL5.keep hR).mono ?_; rintro e w6 ⟨rfl, hk6⟩; have hL6 := hL5.quiet hk6)
          | (go_at_call 29; refine calls_args #[kv, .slice (some ⟨wr.heap.size, 0, none⟩) 1 1] (by with_reducible rfl) ?_; refine (values_ansB HV.out hn8.2 hL5.keep hk5 (by have := lt_of hL.tab.tab; omega) hR).mono ?_; rintro e w6 ⟨rfl, hk6⟩; have hL6 := hL5.quiet hk6))
        all_goals
          go_wp2
          go_ret
          exact ⟨rfl, ((Keep.refl _ w).alloc _).seq hL6.keep⟩
  · go_wp2_with (first
      | (go_at_call 18; refine (awake_any _ _ (Keep.refl _ _)).mono ?_; rintro e w1 ⟨rfl, hk1⟩)
      | (go_at_call 19; refine (live_new (w0 := w.alloc (.cells (u64V V).toArray 55)) hk1 1 (by decide) (by decide)).mono ?_; rintro e w2 ⟨p, m, rfl, h0, -, -, -⟩)
      | (go_at_call 32; refine (live_open h0 3 1 n).mono ?_; rintro e w3 ⟨rfl, kv', hL, -⟩; rw [(HO.out 7 (by decide)).1]; rw [(HO.out 7 (by decide)).2] at hL))
    rw [ha, hq]
    have hL := hL.quiet ((Keep.refl _ w3).alloc (.cells #[.int .i64 1, .int .i64 3, .int .i64 5, .int .i64 7] 3))
    go_loopw [6, 12, 13] (fun _ l i wr => ∃ (j : Nat) (kv : Value), j ≤ 8 ∧ i = .int .i64 j ∧ l = .int .i64 (vleft a 7 n j) ∧ Live (w.alloc (.cells (u64V V).toArray 55)) wr p m kv (VT V a 7 n j)) (fun _ _ i _ => 20 - (intOf i).toNat)
    case atStart => exact ⟨0, _, by omega, rfl, by rw [(vends a ha8 7 (by decide) n (by omega)).2], hL⟩
    case round =>
      obtain ⟨j, kv, hj, rfl, rfl, hL⟩ := hrel
      by_cases hlt : (j : Int) < 8
      · obtain ⟨K, hK⟩ : ∃ K, vk a 7 j = K := ⟨_, rfl⟩
        have hk : ((a : Int) + (j : Int) * 7) % 8 = (K : Int) := by rw [← hK, vk]; omega
        have hK8 : K < 8 := by rw [← hK, vk]; omega
        have c := values_cell HV.out hL.keep hK8
        have hvf := vfacts a ha8 7 (by decide) n (by omega) j (by omega)
        rw [vfact, hK] at hvf
        obtain ⟨l0, hl0⟩ : ∃ l, vleft a 7 n j = l := ⟨_, rfl⟩
        obtain ⟨l1, hl1⟩ : ∃ l, vleft a 7 n (j + 1) = l := ⟨_, rfl⟩
        rw [hl0, hl1] at hvf
        rw [hl0]
        have hl8 : l0 ≤ 8 := by rw [← hl0, vleft]; exact Nat.le_trans (List.length_filter_le _ _) (by simp; omega)
        by_cases hkn : K < n
        · rw [if_pos hkn] at hvf
          simp only [Bool.and_eq_true, beq_iff_eq, Bool.not_eq_true'] at hvf
          have HG := Lib.hid (VT_give (V := V) (a := a) (b := 7) (n := n) (i := j) (by rw [HV.out]; omega) (by rw [hK]; exact hkn) (by rw [hK]; exact hvf.1) (by rw [hl0, hl1]; exact hvf.2))
          rw [hK] at HG
          have hRl := VT_len V a 7 n (j + 1)
          rw [hl1] at hRl
          have HT := Lib.hid (show (VT V a 7 n (j + 1)).touched 3 = decide (0 < l1) by rw [VT_touched (by rw [hK]; exact hkn), hl1])
          have hl : l0 = l1 + 1 := hvf.2.symm
          have Hl1 := Lib.hid hl1
          subst hl
          clear hvf hl0 hl1
          have hK' := Lib.hid hK; clear hK
          have hkn' : (K : Int) < n := by omega
          by_cases hz : l1 = 0
          · subst hz
            have HN := Lib.hid (show (VT V a 7 n (j + 1)).R.length = 0 by omega)
            have hmin := min0
            clear hRl
            go_wp2_with (first | (go_at_call 33; refine (live_give hL (VT_kept _ _ _ _ _) 3 K (V.getD K 0)).mono ?_; rintro e w4 ⟨rfl, kv4, hL4, -⟩; rw [HG.out.1]; rw [HG.out.2] at hL4) | (go_at_call 23; refine (live_pending hL4 (VT_ids _ _ _ _ _) (VT_len16 _ _ _ _ _)).mono ?_; rintro e w5 ⟨qa, qc, rfl, -, hL5, -⟩; rw [HN.out]) | (go_at_call 25; refine (live_touched hL5 3).mono ?_; rintro e w6 ⟨rfl, hL6, -⟩; rw [HT.out]))
            go_roundw
            case rel => exact ⟨j + 1, _, by omega, by go_num, by rw [Hl1.out]; rfl, hL6⟩
            case measure => simp [intOf]; omega
          · have HN := Lib.hid (show (VT V a 7 n (j + 1)).R.length = 1 by omega)
            have hz1 : (0 : Int) < l1 := by omega
            have hz2 : (1 : Int) ≤ l1 := by omega
            have hz3 : decide (0 < l1) = true := by simp; omega
            have hmin := @min1 l1 hz2
            clear hRl
            go_wp2_with (first | (go_at_call 33; refine (live_give hL (VT_kept _ _ _ _ _) 3 K (V.getD K 0)).mono ?_; rintro e w4 ⟨rfl, kv4, hL4, -⟩; rw [HG.out.1]; rw [HG.out.2] at hL4) | (go_at_call 23; refine (live_pending hL4 (VT_ids _ _ _ _ _) (VT_len16 _ _ _ _ _)).mono ?_; rintro e w5 ⟨qa, qc, rfl, -, hL5, -⟩; rw [HN.out]) | (go_at_call 25; refine (live_touched hL5 3).mono ?_; rintro e w6 ⟨rfl, hL6, -⟩; rw [HT.out]))
            go_roundw
            case rel => exact ⟨j + 1, _, by omega, by go_num, by rw [Hl1.out], hL6⟩
            case measure => simp [intOf]; omega
        · rw [if_neg hkn] at hvf
          simp only [beq_iff_eq] at hvf
          have HG := Lib.hid (VT_arg (V := V) (a := a) (b := 7) (n := n) (i := j) (by rw [hK]; exact hkn) (by rw [hl0, hl1]; exact hvf))
          rw [hK, hl0] at HG
          have Hl1 := Lib.hid (hl1.trans hvf)
          clear hvf hl0 hl1 hK
          have hkn' : (n : Int) ≤ K := by omega
          by_cases hz : l0 = 0
          · subst hz
            rw [if_pos rfl] at HG
            go_wp2_with (go_at_call 33; refine (live_give hL (VT_kept _ _ _ _ _) 3 K (V.getD K 0)).mono ?_; rintro e w4 ⟨rfl, kv4, hL4, -⟩; rw [HG.out.1]; rw [HG.out.2] at hL4)
            go_roundw
            case rel => exact ⟨j + 1, _, by omega, by go_num, by rw [Hl1.out]; rfl, hL4⟩
            case measure => simp [intOf]; omega
          · rw [if_neg hz] at HG
            have hz1 : (0 : Int) < l0 := by omega
            have hz2 : ¬ (l0 : Int) = 0 := by omega
            go_wp2_with (go_at_call 33; refine (live_give hL (VT_kept _ _ _ _ _) 3 K (V.getD K 0)).mono ?_; rintro e w4 ⟨rfl, kv4, hL4, -⟩; rw [HG.out.1]; rw [HG.out.2] at hL4)
            go_roundw
            case rel => exact ⟨j + 1, _, by omega, by go_num, by rw [Hl1.out], hL4⟩
            case measure => simp [intOf]; omega
      · have hj8 : j = 8 := by omega
        subst hj8
        have hz := (vends a ha8 7 (by decide) n (by omega)).1
        have HT := Lib.hid (show VT V a 7 n 8 = ⟨1, [], [⟨3, 0, V.take n⟩]⟩ by rw [VT, if_pos hz])
        rw [HT.out] at hL
        rw [hz]
        have hbox := Lib.hid (block_keep (block_new w (.cells (u64V V).toArray 55)) hL.keep (fun f => f))
        clear HT hz
        go_wp2_with fail
        have hVl := HV.out
        have hn1 : (n : Int) ≤ 8 := by omega
        go_region_held3 (fun _ => True) (trivial) (first
          | (go_at_call 30; refine (live_take (hL.quiet (Keep.refl _ wr).drew)).mono ?_; rintro e w5 ⟨rfl, hR, hL5, hk5⟩)
          | (go_at_call 30; refine (live_take (hL.quiet ((Keep.refl _ wr).alloc _).drew)).mono ?_; rintro e w5 ⟨rfl, hR, hL5, hk5⟩)
          | (go_at_call 29; refine calls_args #[kv, .slice (some ⟨w5.heap.size, 0, none⟩) 1 1] (by with_reducible rfl) ?_; refine (values_ansA HV.out hn8.2 hL5.keep hR).mono ?_; rintro e w6 ⟨rfl, hk6⟩; have hL6 := hL5.quiet hk6)
          | (go_at_call 29; refine calls_args #[kv, .slice (some ⟨wr.heap.size, 0, none⟩) 1 1] (by with_reducible rfl) ?_; refine (values_ansB HV.out hn8.2 hL5.keep hk5 (by have := lt_of hL.tab.tab; omega) hR).mono ?_; rintro e w6 ⟨rfl, hk6⟩; have hL6 := hL5.quiet hk6))
        all_goals
          go_wp2
          go_ret
          exact ⟨rfl, ((Keep.refl _ w).alloc _).seq hL6.keep⟩
end Go.Proofs.Xw
