import Derived.Test.YtpoeomnopcgheaaXwReq4
namespace Go.Proofs.Xw
open Go.RowKit Go.Xw

theorem _root_.Go.Xw.SlR.at' {w : World} {n : Nat} {xs : List Value} {pa : Option Addr} {s m cap : Nat} (h : SlR w s (.slice pa m cap) n xs) {k : Nat} (hk : k < n) :
    m = n ∧ n ≤ cap ∧ cap ≤ maxLen ∧ ∃ b off, pa = some ⟨b, off, none⟩ ∧ b < w.heap.size ∧ w.rangeAt b off xs := by
  rcases h.2 with ⟨e, rfl⟩ | ⟨b, off, c, e, h3, h4, h5, h6⟩
  · omega
  · injection e with e1 e2 e3; subst e1; subst e2; subst e3
    exact ⟨rfl, h3, h4, b, off, rfl, h5, h6⟩
theorem _root_.Go.Xw.SlR.len' {w : World} {n : Nat} {xs : List Value} {s m cap : Nat} {pa : Option Addr} (h : SlR w s (.slice pa m cap) n xs) : m = n ∧ n ≤ maxLen := by
  rcases h.2 with ⟨e, rfl⟩ | ⟨b, off, c, e, h3, h4, h5, h6⟩
  · injection e with e1 e2 e3; subst e2; exact ⟨rfl, by decide⟩
  · injection e with e1 e2 e3; subst e2; subst e3
    exact ⟨rfl, by omega⟩

set_option maxHeartbeats 1000000 in
theorem ansEq_any (w : World) (a b : Ans) (va vb : Value) (ha : SlR w 1 va a.vals.length (u64V a.vals)) (hb : SlR w 1 vb b.vals.length (u64V b.vals)) :
    Calls Try.prog 75 #[.agg #[.int .i64 a.id, .int .i64 a.code, va], .agg #[.int .i64 b.id, .int .i64 b.code, vb]] w fun e w' => e = .returned (.bool (decide (a = b))) ∧ Keep (fun _ => False) w w' := by
  obtain ⟨i, c, xs⟩ := a
  obtain ⟨j, d, ys⟩ := b
  obtain ⟨pa, ma, rfl⟩ := ha.form
  obtain ⟨pb, mb, rfl⟩ := hb.form
  have hma : xs.length ≤ 9223372036854775807 := Nat.le_trans ha.len'.2 (by decide)
  have hmb : ys.length ≤ 9223372036854775807 := Nat.le_trans hb.len'.2 (by decide)
  simp only at *
  have hw := Lib.hid ((((Keep.refl (fun _ => False) w).alloc (.cells #[.int .i64 i, .int .i64 c, .slice pa xs.length ma] 49 (0,0)))).alloc (.cells #[.int .i64 j, .int .i64 d, .slice pb ys.length mb] 49 (0,0)))
  by_cases h1 : ¬ i = j
  · have e1 : (i != j) = true := by simp [h1]
    have hd := Lib.hid (show decide ((⟨i, c, xs⟩ : Ans) = ⟨j, d, ys⟩) = false by simp [h1])
    clear h1
    go_enter Try.func75, Try.ntmps75
    go_wp2
    go_ret
    exact ⟨ret_bool hd.out.symm, hw.out⟩
  obtain rfl : i = j := by omega
  clear h1
  by_cases h2 : ¬ c = d
  · have e1 : (c != d) = true := by simp [h2]
    have hd := Lib.hid (show decide ((⟨i, c, xs⟩ : Ans) = ⟨i, d, ys⟩) = false by simp [h2])
    clear h2
    go_enter Try.func75, Try.ntmps75
    go_wp2
    go_ret
    exact ⟨ret_bool hd.out.symm, hw.out⟩
  obtain rfl : c = d := by omega
  clear h2
  by_cases h3 : ¬ xs.length = ys.length
  · have e1 : ((xs.length : Int) != (ys.length : Int)) = true := by simp; omega
    have hd := Lib.hid (show decide ((⟨i, c, xs⟩ : Ans) = ⟨i, c, ys⟩) = false by simp; rintro rfl; exact h3 rfl)
    clear h3
    go_enter Try.func75, Try.ntmps75
    go_wp2
    go_ret
    exact ⟨ret_bool hd.out.symm, hw.out⟩
  have h3 : xs.length = ys.length := by omega
  have H3 := Lib.hid h3
  have e1 : ((xs.length : Int) != (ys.length : Int)) = false := by simp [h3]
  clear h3
  generalize hw0 : (w.alloc (.cells #[.int .i64 i, .int .i64 c, .slice pa xs.length ma] 49 (0,0))).alloc (.cells #[.int .i64 i, .int .i64 c, .slice pb ys.length mb] 49 (0,0)) = w0 at hw
  have hB1 := Lib.hid (show w0.heap[w.heap.size]? = some (.cells #[.int .i64 i, .int .i64 c, .slice pa xs.length ma] 49 (0, 0)) by rw [← hw0]; exact block_keep (block_new _ _) ((Keep.refl (fun _ => False) _).alloc _) (fun f => f))
  have hB2 := Lib.hid (show w0.heap[w.heap.size + 1]? = some (.cells #[.int .i64 i, .int .i64 c, .slice pb ys.length mb] 49 (0, 0)) by rw [← hw0]; have := block_new (w.alloc (.cells #[.int .i64 i, .int .i64 c, .slice pa xs.length ma] 49 (0,0))) (.cells #[.int .i64 i, .int .i64 c, .slice pb ys.length mb] 49 (0,0)); simpa using this)
  have Hw0 := Lib.hid hw0; clear hw0
  go_enter Try.func75, Try.ntmps75
  go_wp2
  rw [Hw0.out]
  go_loopw [4, 5] (fun _ i wr => ∃ k : Nat, k ≤ xs.length ∧ i = .int .i64 k ∧ Hid (∀ j, j < k → xs[j]? = ys[j]?) ∧ Hid (Keep (fun _ => False) w0 wr)) (fun _ i _ => xs.length - (intOf i).toNat)
  case atStart => exact ⟨0, by omega, rfl, Lib.hid (fun j hj => by omega), Lib.hid (Keep.refl _ _)⟩
  case round =>
    obtain ⟨k, hk, rfl, hn, hK⟩ := hrel
    have b1 := block_keep hB1.out hK.out (fun f => f)
    have b2 := block_keep hB2.out hK.out (fun f => f)
    have c1 := cell_of b1 (i := 2) rfl
    have c2 := cell_of b2 (i := 2) rfl
    by_cases hlt : k < xs.length
    · obtain ⟨_, hca, _, g, o, rfl, hg, hr⟩ := ha.at' hlt
      obtain ⟨_, hcb, _, g', o', rfl, hg', hr'⟩ := hb.at' (by rw [← H3.out]; exact hlt)
      have hlt2 : k < ys.length := by rw [← H3.out]; exact hlt
      have hkk := hw.out.seq hK.out
      have d1 : wr.cell? ⟨g, o + k, none⟩ = some (.int .u64 xs[k]) := (hkk.cell hg (fun f => f)).trans (hr k _ (by simp [u64V, hlt]))
      have d2 : wr.cell? ⟨g', o' + k, none⟩ = some (.int .u64 ys[k]) := (hkk.cell hg' (fun f => f)).trans (hr' k _ (by simp [u64V, hlt2]))
      have hl1 : (k : Int) < xs.length := by omega
      have hl2 : (k : Int) < ys.length := by omega
      have hK' := Lib.hid hkk; clear hkk
      by_cases he : xs[k] = ys[k]
      · have heb : (xs[k] != ys[k]) = false := by simp [he]
        have hn' := Lib.hid (show ∀ j, j < k + 1 → xs[j]? = ys[j]? from fun j hj => by
          by_cases e : j = k
          · subst e; rw [List.getElem?_eq_getElem hlt, List.getElem?_eq_getElem hlt2, he]
          · exact hn.out j (by omega))
        clear he
        go_wp2
        go_quiet (fail)
        go_wp2
        go_roundw
        case rel => exact ⟨k + 1, by omega, by go_num, hn', Lib.hid (hK.out.drewN _)⟩
        case measure => simp [intOf]; omega
      · have heb : (xs[k] != ys[k]) = true := by simp [he]
        have hd := Lib.hid (show decide ((⟨i, c, xs⟩ : Ans) = ⟨i, c, ys⟩) = false by simp; intro e; exact he (by simp only [e]))
        clear he
        go_wp2
        go_quiet (fail)
        go_wp2
        go_ret
        exact ⟨ret_bool hd.out.symm, hK'.out.drewN _⟩
    · have hd := Lib.hid (show decide ((⟨i, c, xs⟩ : Ans) = ⟨i, c, ys⟩) = true by
        simp
        apply List.ext_getElem?
        intro q
        by_cases hq : q < k
        · exact hn.out q hq
        · have := H3.out
          rw [List.getElem?_eq_none (by omega), List.getElem?_eq_none (by omega)])
      have hK' := Lib.hid (hw.out.seq hK.out)
      go_wp2
      go_ret
      exact ⟨ret_bool hd.out.symm, hK'.out⟩
end Go.Proofs.Xw
