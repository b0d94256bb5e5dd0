import Derived.Test.YtpoeomnopcgheaaXwOrder2
namespace Go.Proofs.Xw
open Go.RowKit Go.Xw

/-- What one step of ReqOnce makes of a table that keeps no answer. -/
structure OneStep (T T' : Tab) (opened cancelled : Nat) : Prop where
  wf : T'.wf
  room : T'.room = T.room
  ids : T'.ids
  len : T'.R.length + T'.kept.length = T.R.length + opened
  one : T'.kept.length ≤ 1
  ok : ∀ a ∈ T'.kept, (a.code = 0 ∧ a.vals.length ≤ 8) ∨ (a.vals = [] ∧ (a.code = 7 ∨ a.code = 8))
  can : (T'.kept.filter fun a => decide (a.code = 8)).length = cancelled

theorem once_none {T : Tab} (hw : T.wf) (hi : T.ids) (hk : T.kept = []) : OneStep T T 0 0 :=
  ⟨hw, rfl, hi, by simp [hk], by simp [hk], by simp [hk], by simp [hk]⟩
theorem once_open {T : Tab} (hw : T.wf) (hi : T.ids) (hk : T.kept = []) {id : Int} (kind count : Int) (hid : id ≤ 9223372036854775807) :
    OneStep T (T.open' id kind count) (if T.openC id kind count = 0 then 1 else 0) 0 := by
  by_cases h : T.openC id kind count = 0
  · have e : T.open' id kind count = { T with R := T.R ++ [(id, Rq.new kind count.toNat)] } := by rw [Tab.open', if_pos h]
    refine ⟨hw.open' _ _ _, by rw [e], ?_, ?_, by rw [e]; simp [hk], by rw [e]; simp [hk], by rw [e]; simp [hk]⟩
    · rw [e]; intro q hq
      rcases List.mem_append.1 hq with hq | hq
      · exact hi q hq
      · simp at hq; subst hq; exact hid
    · rw [e, if_pos h]; simp [hk]
  · have e : T.open' id kind count = T := by rw [Tab.open', if_neg h]
    rw [e, if_neg h]; exact once_none hw hi hk
theorem adel_len {T : Tab} {id : Int} {r : Rq} (hf : afind T.R id = some r) : (adel T.R id).length + 1 = T.R.length := by
  have hm := mem_of_afind hf
  have hk : ((adel T.R id).map (·.1)).length + 1 = (T.R.map (·.1)).length := by
    rw [adel_keys, List.length_erase_of_mem (List.mem_map.2 ⟨_, hm, rfl⟩)]
    have : 0 < (T.R.map (·.1)).length := List.length_pos_of_mem (List.mem_map.2 ⟨_, hm, rfl⟩)
    omega
  simpa using hk
theorem once_cancel {T : Tab} (hw : T.wf) (hi : T.ids) (hk : T.kept = []) (id : Int) : OneStep T (T.cancel id) 0 (if T.cancelC id = 0 then 1 else 0) := by
  cases hf : afind T.R id with
  | none =>
    have e : T.cancel id = T := by simp [Tab.cancel, hf]
    have c : T.cancelC id = 3 := by simp [Tab.cancelC, hf]
    rw [e, c]; exact once_none hw hi hk
  | some r =>
    have e : T.cancel id = { T with R := adel T.R id, kept := T.kept ++ [⟨id, 8, []⟩] } := by simp [Tab.cancel, hf]
    have c : T.cancelC id = 0 := by simp [Tab.cancelC, hf]
    have hl := adel_len hf
    refine ⟨hw.cancel _, by rw [e], ?_, ?_, by rw [e]; simp [hk], by rw [e]; simp [hk], by rw [e, c]; simp [hk]⟩
    · rw [e]; intro q hq; exact hi q (mem_adel hq)
    · rw [e]; simp [hk]; omega
theorem once_put {T : Tab} (hw : T.wf) (hi : T.ids) (hk : T.kept = []) (id place : Int) {what : Int} (hwh : what = 1 ∨ what = 2) (v : Int) : OneStep T (T.put id place what v) 0 0 := by
  by_cases hc : T.putC id place = 0
  · cases hf : afind T.R id with
    | none => simp [Tab.putC, hf] at hc
    | some r =>
      have hr := (hw.req _ (mem_of_afind hf)).put place.toNat hwh v
      have e : T.put id place what v = T.settle id (r.put place.toNat what v) := by rw [Tab.put, if_pos hc, hf]
      have hwf := hw.put id place hwh v
      rw [e] at hwf ⊢
      generalize r.put place.toNat what v = u at hr hwf ⊢
      by_cases h0 : (0 : Int) ∈ u.place
      · have es : T.settle id u = { T with R := aset T.R id u } := by rw [Tab.settle, if_pos h0]
        rw [es] at hwf ⊢
        have hlen : (aset T.R id u).length = T.R.length := by have := congrArg List.length (aset_keys (v := u) hf); simpa using this
        refine ⟨hwf, rfl, ?_, by simp [hk, hlen], by simp [hk], by simp [hk], by simp [hk]⟩
        intro q hq
        rcases mem_aset hq with rfl | hq
        · exact hi (id, r) (mem_of_afind hf)
        · exact hi q hq
      · have es : T.settle id u = { T with R := adel T.R id, kept := T.kept ++ [ansOf id u] } := by rw [Tab.settle, if_neg h0]
        rw [es] at hwf ⊢
        have hl := adel_len hf
        have ha : ((ansOf id u).code = 0 ∧ (ansOf id u).vals.length ≤ 8) ∨ ((ansOf id u).vals = [] ∧ ((ansOf id u).code = 7 ∨ (ansOf id u).code = 8)) := by
          unfold ansOf; split
          · exact .inr ⟨rfl, .inl rfl⟩
          · split
            · exact .inl ⟨rfl, by simp; rw [hr.len]; exact hr.hi⟩
            · exact .inl ⟨rfl, by simp⟩
        have ha8 : (ansOf id u).code ≠ 8 := by 
          unfold ansOf; split
          · show (7 : Int) ≠ 8; decide
          · split <;> (show (0 : Int) ≠ 8; decide)
        refine ⟨hwf, rfl, fun q hq => hi q (mem_adel hq), by simp [hk]; omega, by simp [hk], ?_, by simp [hk, ha8]⟩
        intro b hb; simp [hk] at hb; subst hb; exact ha
  · have e : T.put id place what v = T := by rw [Tab.put, if_neg hc]
    rw [e]; exact once_none hw hi hk
end Go.Proofs.Xw
