import Derived.Test.YtpoeomnopcgheaaXwRef1
namespace Go.Proofs.Xw
open Go.RowKit Go.Xw

/-- Answers that can be read through a slice. -/
def AnsR (w : World) (v : Value) (l : List Ans) : Prop :=
  ∃ vs : List Value, vs.length = l.length ∧ SlR w 3 v l.length (ansCells l vs) ∧
    ∀ (i : Nat) (a : Ans) (u : Value), l[i]? = some a → vs[i]? = some u → SlR w 1 u a.vals.length (u64V a.vals)
theorem AnsOwn.read {w : World} {v : Value} {l : List Ans} (h : AnsOwn w v l) : AnsR w v l := by
  obtain ⟨vs, h1, h2, h3⟩ := h
  exact ⟨vs, h1, SlR.of_owns h2, fun i a u ha hu => SlR.of_owns (h3 i a u ha hu)⟩
theorem AnsR.keep0 {w w' : World} {v : Value} {l : List Ans} (h : AnsR w v l) (k : Keep (fun _ => False) w w') : AnsR w' v l := by
  obtain ⟨vs, h1, h2, h3⟩ := h
  exact ⟨vs, h1, h2.keep k (fun _ _ f => f), fun i a u ha hu => (h3 i a u ha hu).keep k (fun _ _ f => f)⟩
theorem ansCells_get : ∀ {l : List Ans} {vs : List Value} {k : Nat} {a : Ans} {u : Value}, l[k]? = some a → vs[k]? = some u →
    (ansCells l vs)[k * 3]? = some (.int .i64 a.id) ∧ (ansCells l vs)[k * 3 + 1]? = some (.int .i64 a.code) ∧ (ansCells l vs)[k * 3 + 2]? = some u
  | [], _, k, a, u, h, _ => by simp at h
  | _ :: _, [], k, a, u, _, h => by simp at h
  | x :: l, v :: vs, 0, a, u, h, h' => by simp at h h'; subst h; subst h'; exact ⟨rfl, rfl, rfl⟩
  | x :: l, v :: vs, k + 1, a, u, h, h' => by
    have := ansCells_get (l := l) (vs := vs) (k := k) (by simpa using h) (by simpa using h')
    rw [show (k + 1) * 3 = k * 3 + 3 by omega]
    exact this

set_option maxRecDepth 20000 in
set_option maxHeartbeats 1000000 in
theorem answers_any (w : World) (la lb : List Ans) (va vb : Value) (ha : AnsR w va la) (hb : AnsR w vb lb) :
    Calls Try.prog 29 #[va, vb] w fun e w' => e = .returned (.bool (decide (la = lb))) ∧ Keep (fun _ => False) w w' := by
  obtain ⟨us, hul, hua, hur⟩ := ha
  obtain ⟨vs, hvl, hva, hvr⟩ := hb
  obtain ⟨pa, ma, rfl⟩ := hua.form
  obtain ⟨pb, mb, rfl⟩ := hva.form
  have hma : la.length ≤ 9223372036854775807 := Nat.le_trans hua.len'.2 (by decide)
  have hmb : lb.length ≤ 9223372036854775807 := Nat.le_trans hva.len'.2 (by decide)
  by_cases h3 : ¬ la.length = lb.length
  · have e1 : ((la.length : Int) != (lb.length : Int)) = true := by simp; omega
    have hd := Lib.hid (show decide (la = lb) = false by simp; rintro rfl; exact h3 rfl)
    clear h3
    go_enter Try.func29, Try.ntmps29
    go_wp2
    go_ret
    exact ⟨ret_bool hd.out.symm, Keep.refl _ _⟩
  have h3 : la.length = lb.length := by omega
  have H3 := Lib.hid h3
  have e1 : ((la.length : Int) != (lb.length : Int)) = false := by simp [h3]
  clear h3
  go_enter Try.func29, Try.ntmps29
  go_wp2
  go_loopw [4, 5] (fun _ i wr => ∃ k : Nat, k ≤ la.length ∧ i = .int .i64 k ∧ Hid (∀ j, j < k → la[j]? = lb[j]?) ∧ Hid (Keep (fun _ => False) w wr)) (fun _ i _ => la.length - (intOf i).toNat)
  case atStart => exact ⟨0, by omega, rfl, Lib.hid (fun j hj => by omega), Lib.hid (Keep.refl _ _)⟩
  case round =>
    obtain ⟨k, hk, rfl, hn, hK⟩ := hrel
    by_cases hlt : k < la.length
    · obtain ⟨_, hca, _, g, o, rfl, hg, hr⟩ := hua.at' hlt
      have hlt2 : k < lb.length := by rw [← H3.out]; exact hlt
      obtain ⟨_, hcb, _, g', o', rfl, hg', hr'⟩ := hva.at' hlt2
      obtain ⟨a, hla⟩ : ∃ a, la[k]? = some a := ⟨_, List.getElem?_eq_getElem hlt⟩
      obtain ⟨b, hlb⟩ : ∃ b, lb[k]? = some b := ⟨_, List.getElem?_eq_getElem hlt2⟩
      obtain ⟨u, hu⟩ : ∃ u, us[k]? = some u := ⟨_, List.getElem?_eq_getElem (by omega)⟩
      obtain ⟨v, hv⟩ : ∃ v, vs[k]? = some v := ⟨_, List.getElem?_eq_getElem (by omega)⟩
      have ga := ansCells_get hla hu
      have gb := ansCells_get hlb hv
      have c0 : wr.cell? ⟨g, o + k * 3, none⟩ = _ := (hK.out.cell hg (fun f => f)).trans (hr _ _ ga.1)
      have c1 : wr.cell? ⟨g, o + k * 3 + 1, none⟩ = _ := (hK.out.cell hg (fun f => f)).trans (hr _ _ ga.2.1)
      have c2 : wr.cell? ⟨g, o + k * 3 + 2, none⟩ = _ := (hK.out.cell hg (fun f => f)).trans (hr _ _ ga.2.2)
      have d0 : wr.cell? ⟨g', o' + k * 3, none⟩ = _ := (hK.out.cell hg' (fun f => f)).trans (hr' _ _ gb.1)
      have d1 : wr.cell? ⟨g', o' + k * 3 + 1, none⟩ = _ := (hK.out.cell hg' (fun f => f)).trans (hr' _ _ gb.2.1)
      have d2 : wr.cell? ⟨g', o' + k * 3 + 2, none⟩ = _ := (hK.out.cell hg' (fun f => f)).trans (hr' _ _ gb.2.2)
      have hl1 : (k : Int) < la.length := by omega
      have hl2 : (k : Int) < lb.length := by omega
      have hua' := (hur k a u hla hu).keep hK.out.drew (fun _ _ f => f)
      have hvb' := (hvr k b v hlb hv).keep hK.out.drew (fun _ _ f => f)
      have HC := Lib.hid (ansEq_any wr.drew a b u v hua' hvb')
      have HL := Lib.hid (And.intro hla hlb)
      clear hua' hvb' ga gb hla hlb hu hv
      go_wp2
      refine wp_region_std 8 (by kernel_rfl) (by kernel_rfl) ?_
      simp only [List.take_succ_cons, List.take_zero, List.drop_succ_cons, List.drop_zero]
      repeat still_step
      refine wpStill_nil ?_
      cases hd : decide (a = b)
      · have HD := Lib.hid (show decide (la = lb) = false by
          simp
          rintro rfl
          have := HL.out.1.symm.trans HL.out.2
          simp at hd this; exact hd this)
        go_wp2_with (go_at_call 75; refine HC.out.mono ?_; rintro e w2 ⟨rfl, hk2⟩)
        go_ret
        exact ⟨ret_bool HD.out.symm, hK.out.drew.seq hk2⟩
      · have hn' := Lib.hid (show ∀ j, j < k + 1 → la[j]? = lb[j]? from fun j hj => by
          by_cases e : j = k
          · subst e; simp at hd; rw [HL.out.1, HL.out.2, hd]
          · exact hn.out j (by omega))
        go_wp2_with (go_at_call 75; refine HC.out.mono ?_; rintro e w2 ⟨rfl, hk2⟩)
        go_roundw
        case rel => exact ⟨k + 1, by omega, by go_num, hn', Lib.hid (hK.out.drew.seq hk2)⟩
        case measure => simp [intOf]; omega
    · have hd := Lib.hid (show decide (la = lb) = true by
        simp
        apply List.ext_getElem?
        intro q
        by_cases hq : q < k
        · exact hn.out q hq
        · have := H3.out
          rw [List.getElem?_eq_none (by omega), List.getElem?_eq_none (by omega)])
      go_wp2
      go_ret
      exact ⟨ret_bool hd.out.symm, hK.out⟩
end Go.Proofs.Xw
