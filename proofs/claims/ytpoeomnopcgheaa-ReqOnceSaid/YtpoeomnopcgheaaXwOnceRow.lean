/- The law forerunnerlaw17.ReqOnce returns true for every input (a slice of actions), does not panic, and its argument reads afterwards as it read before. Conditions: those of the row reqOnceRow alone. -/
import Derived.Test.YtpoeomnopcgheaaRows
import Derived.Test.YtpoeomnopcgheaaChecked
import Derived.Test.YtpoeomnopcgheaaXwAct17
import Derived.Test.YtpoeomnopcgheaaXwOnceFacts
import Derived.WalkKit
import Derived.ProofKit
import Derived.OpenShut
import Derived.ChangeOld
import Derived.Below
import Derived.SizedLaws
import Derived.Deep.Grids
namespace Go.Proofs.Ytpoeomnopcgheaa.reqOnce
open Go.ChangeShapes Go.WideShapes Go.ChangeAt Go.RowKit Go.Proofs.Xw Go.Xw
theorem own : ownKnob Try.prog.godebug = none := by kernel_rfl
theorem laidOut : laidOutB Try.prog = true := by kernel_rfl
set_option maxRecDepth 100000 in
theorem lifted (os : Os) (started : os.Started) (H : Type) (enc : TypeId × Value → H) :
    ReturnsInHanded {} Try.checked os 4 .any (Rows.reqOnceSpec.pre6 enc Try.prog Try.f4 Rows.reqOnceRow.domain false) (Rows.reqOnceSpec.post enc Try.prog Try.f4 false true false false) := by
  refine returnsInHanded_of_change_sized (C := Try.checked) own started (by kernel_rfl) Try.func4
    (ChangeSpec.witness6 (enc := enc) (C := Try.checked) false ⟨#[], #[.slice none 0 0], []⟩ 8 (by kernel_rfl) (by kernel_rfl) (by kernel_rfl) (by kernel_rfl)) ?_
  intro W base args ds gs before hval0 hW hcnd hsz0 _
  have hval : ∀ (j : Nat) t v, Try.f4.params[j]? = some t → args[j]? = some v → Value.okWide Try.prog W .any base t v := hval0
  have hW' := hW
  obtain ⟨p, q, hA0, hV, rfl, hfz, hnd⟩ := hW
  have hA : DataW.TrodAll enc Try.prog W 0 (fun _ => true) true Try.f4.params.toList args.toList ds p := hA0
  rw [Try.params4] at hA hval
  obtain ⟨v0, vs0, d0, ds0, p0, q0, hargs, rfl, rfl, h0, r0⟩ := trodAll_cons hA
  obtain ⟨rfl, rfl, rfl⟩ := trodAll_nil r0
  obtain rfl : args = #[v0] := by cases args; simp_all
  obtain ⟨rfl, rfl⟩ := trodVars_none hV
  have k0 := h0
  have lt0 : ∀ x ∈ p0, x.block < W.heap.size := by obtain ⟨m, hm⟩ := k0; exact DataW.trod_lt m _ _ _ hm
  obtain ⟨a0, len0, cap0, rfl⟩ := okWide_slice Try.underlying22 (hval 0 22 v0 rfl rfl)
  obtain ⟨rows, hin, hgood⟩ : ∃ rows, InR W 5 a0 len0 cap0 rows ∧ ∀ k, k < len0 → Act17 (rows k) := by
    obtain ⟨fuel, hf⟩ := h0
    obtain ⟨a, n, cap, rows, hcs, hin, hgood⟩ := open_structs (s := 5) Act17 Try.underlying22 (by kernel_rfl) (by decide) (fun cs n y hl hy => act17_of hl hy) hf
    simp only [Value.cells, List.cons.injEq, Value.slice.injEq, and_true] at hcs
    obtain ⟨rfl, rfl, rfl⟩ := hcs
    exact ⟨rows, hin, hgood⟩
  clear hA0 hval0 hsz0
  refine (once_walk W a0 len0 cap0 rows hin hgood).mono fun e W' ⟨he, kee⟩ => ?_
  have bel : Below W.heap.size W W' := kee.below (Nat.le_refl _) (fun _ f => f.elim)
  subst he
  exact ⟨_, rfl, _, _, _, [], _, [], hW', trodAll_mk1 (shut_bool Try.underlying4 _), (trodAll_cons_mk (Below.trod laidOut (by kernel_rfl) (of_decide_eq_true (by kernel_rfl)) k0 bel lt0) trodAll_mk0), rfl, bel.frame _, fun h => by cases h⟩
theorem band {a b : Bool} (ha : a = true) (hb : b = true) : (a && b) = true := by rw [ha, hb]; rfl
set_option maxRecDepth 100000 in
theorem joined : joinedFacts Try.prog 4 Try.f4 Rows.reqOnceSpec Rows.reqOnceRow = true := (band (band (band (band (band (band (band (band (band (band (band (band (band (band (band (band (band (band (band (band (band (band (band (band (band (band (band (band (band (band (band q0 q1) q2) q3) q4) q5) q6) q7) q8) q9) q10) q11) q12) q13) q14) q15) q16) q17) q18) q19) q20) q21) q22) q23) q24) q25) q26) q27) q28) q29) q30) q31)
theorem over : Rows.reqOnceRow.holds Try.pinned (OpenSpec.ofChange Rows.reqOnceSpec) :=
  OpenClaim.holds_of_wide 4 Try.f4 rfl rfl rfl rfl rfl rfl rfl ⟨rfl, rfl, rfl, rfl, rfl⟩ rfl rfl rfl rfl rfl named Try.func4 joined
    (of_decide_eq_true (by kernel_rfl)) wrapped
    (fun os started H enc _ => lifted os started H enc)
theorem proved : Rows.ReqOnceSaid := over
end Go.Proofs.Ytpoeomnopcgheaa.reqOnce
namespace Go.Proofs.Ytpoeomnopcgheaa
/-- The row, under a short name, for the claim. -/
theorem reqOnce_holds : Rows.ReqOnceSaid := reqOnce.proved
end Go.Proofs.Ytpoeomnopcgheaa
#print axioms Go.Proofs.Ytpoeomnopcgheaa.reqOnce_holds
