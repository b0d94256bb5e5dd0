/- The law forerunnerlaw17.ReqValues returns true for every input (an array of eight uint64, two bytes), does not panic, and each argument reads afterwards as it read before. Conditions: those of the row reqValuesRow alone. -/
import Derived.Test.YthfeohfahncfdaaRows
import Derived.Test.YthfeohfahncfdaaChecked
import Derived.Test.YthfeohfahncfdaaXwValues2
import Derived.Test.YthfeohfahncfdaaXwValuesFacts
import Derived.WalkKit
import Derived.ProofKit
import Derived.OpenShut
import Derived.ChangeOld
import Derived.Below
import Derived.SizedLaws
namespace Go.Proofs.Ythfeohfahncfdaa.reqValues
open Go.ChangeShapes Go.WideShapes Go.ChangeAt Go.RowKit Go.Proofs.Xw Go.Xw
theorem own : ownKnob Try.prog.godebug = none := by kernel_rfl
theorem laidOut : laidOutB Try.prog = true := by kernel_rfl
set_option maxRecDepth 20000 in
theorem open_u64x8 {H : Type} {enc : TypeId × Value → H} {w : World} {base b0 : Nat} {spare : Nat → Bool} {held : Bool} {r : Reach} {v : Value} {d : DataW H} {p : List MemPlace} (hv : Value.okWide Try.prog w r b0 55 v) (h : DataW.Trod enc Try.prog w base spare held 55 v d p) :
    ∃ V : List Int, V.length = 8 ∧ v = .agg (u64V V).toArray := by
  have hc : Try.prog.cellsOf 30 = 1 := by kernel_rfl
  have hc8 : Try.prog.cellsOf 55 = 8 := by kernel_rfl
  simp only [Value.okWide, Try.underlying55] at hv
  obtain ⟨cs, rfl, hsz, _⟩ := hv
  obtain ⟨fuel, hf⟩ := h
  obtain ⟨xs, m, _, _, hl, hlen, hx⟩ := DataW.trod_array Try.underlying55 hf
  have hl8 : cs.toList.length = 8 := by rw [hc8] at hl; simpa [Value.cells] using hl
  have each : ∀ i, i < 8 → ∃ n, cs.toList[i]? = some (.int .u64 n) := by
    intro i hi
    have h1 := hx i hi
    rw [hc, Nat.mul_one, List.getElem?_eq_getElem (by omega)] at h1
    obtain ⟨n, hn, _⟩ := DataW.trod_int Try.underlying30 h1
    refine ⟨n, ?_⟩
    have h2 : (List.drop i cs.toList).take 1 = [.int .u64 n] := by simpa [Value.cells] using hn
    have h3 := congrArg (·[0]?) h2
    simpa [List.getElem?_take, List.getElem?_drop] using h3
  refine ⟨cs.toList.map (fun v => match v with | .int _ n => n | _ => 0), by simpa using hl8, ?_⟩
  have : cs.toList = u64V (cs.toList.map (fun v => match v with | .int _ n => n | _ => 0)) := by
    apply List.ext_getElem?
    intro i
    by_cases hi : i < 8
    · obtain ⟨n, hn⟩ := each i hi
      simp only [u64V, List.getElem?_map, hn, Option.map_some]
    · rw [List.getElem?_eq_none (by omega), List.getElem?_eq_none (by simp [u64V] at hl8 ⊢; omega)]
  rw [← this]
set_option maxRecDepth 100000 in
theorem lifted (os : Os) (started : os.Started) (H : Type) (enc : TypeId × Value → H) :
    ReturnsInHanded {} Try.checked os 7 .any (Rows.reqValuesSpec.pre6 enc Try.prog Try.f7 Rows.reqValuesRow.domain false) (Rows.reqValuesSpec.post enc Try.prog Try.f7 false true false false) := by
  refine returnsInHanded_of_change_sized (C := Try.checked) own started (by kernel_rfl) Try.func7
    (ChangeSpec.witness6 (enc := enc) (C := Try.checked) false ⟨#[], #[.agg #[.int .u64 0, .int .u64 0, .int .u64 0, .int .u64 0, .int .u64 0, .int .u64 0, .int .u64 0, .int .u64 0], .int .u8 0, .int .u8 0], []⟩ 8 (by kernel_rfl) (by kernel_rfl) (by kernel_rfl) (by kernel_rfl)) ?_
  intro W base args ds gs before hval0 hW hcnd hsz0 _
  have hval : ∀ (j : Nat) t v, Try.f7.params[j]? = some t → args[j]? = some v → Value.okWide Try.prog W .any base t v := hval0
  have hW' := hW
  obtain ⟨p, q, hA0, hV, rfl, hfz, hnd⟩ := hW
  have hA : DataW.TrodAll enc Try.prog W 0 (fun _ => true) true Try.f7.params.toList args.toList ds p := hA0
  rw [Try.params7] at hA hval
  obtain ⟨v0, vs0, d0, ds0, p0, q0, hargs, rfl, rfl, h0, r0⟩ := trodAll_cons hA
  obtain ⟨v1, vs1, d1, ds1, p1, q1, rfl, rfl, rfl, h1, r1⟩ := trodAll_cons r0
  obtain ⟨v2, vs2, d2, ds2, p2, q2, rfl, rfl, rfl, h2, r2⟩ := trodAll_cons r1
  obtain ⟨rfl, rfl, rfl⟩ := trodAll_nil r2
  obtain rfl : args = #[v0, v1, v2] := by cases args; simp_all
  obtain ⟨rfl, rfl⟩ := trodVars_none hV
  have k0 := h0
  have lt0 : ∀ x ∈ p0, x.block < W.heap.size := by obtain ⟨m, hm⟩ := k0; exact DataW.trod_lt m _ _ _ hm
  obtain ⟨V, hVl, rfl⟩ := open_u64x8 (hval 0 55 v0 rfl rfl) h0
  obtain ⟨a1, rfl, rfl, rfl, w1⟩ := open_int Try.underlying5 (hval 1 5 v1 rfl rfl) h1
  obtain ⟨a2, rfl, rfl, rfl, w2⟩ := open_int Try.underlying5 (hval 2 5 v2 rfl rfl) h2
  have u8 : ∀ z : Int, (Lit.int .u8 z).wf = true → 0 ≤ z ∧ z ≤ 255 := by
    intro z hz
    have e1 : IntKind.u8.min = 0 := by decide
    have e2 : IntKind.u8.max = 255 := by decide
    simpa only [Lit.wf, e1, e2, Bool.and_eq_true, decide_eq_true_eq] using hz
  clear hA0 hval0 hsz0
  refine (values_walk W V hVl a1 a2 (u8 _ w1) (u8 _ w2)).mono fun e W' ⟨he, kee⟩ => ?_
  have bel : Below W.heap.size W W' := kee.below (Nat.le_refl _) (fun _ f => f.elim)
  subst he
  exact ⟨_, rfl, _, _, _, [], _, [], hW', trodAll_mk1 (shut_bool Try.underlying4 _), (trodAll_cons_mk (Below.trod laidOut (by kernel_rfl) (of_decide_eq_true (by kernel_rfl)) k0 bel lt0) (trodAll_cons_mk (shut_int Try.underlying5 w1) (trodAll_cons_mk (shut_int Try.underlying5 w2) trodAll_mk0))), rfl, bel.frame _, fun h => by cases h⟩
theorem band {a b : Bool} (ha : a = true) (hb : b = true) : (a && b) = true := by rw [ha, hb]; rfl
set_option maxRecDepth 100000 in
theorem joined : joinedFacts Try.prog 7 Try.f7 Rows.reqValuesSpec Rows.reqValuesRow = true := (band (band (band (band (band (band (band (band (band (band (band (band (band (band (band (band (band (band (band (band (band (band (band (band (band (band (band (band (band (band (band q0 q1) q2) q3) q4) q5) q6) q7) q8) q9) q10) q11) q12) q13) q14) q15) q16) q17) q18) q19) q20) q21) q22) q23) q24) q25) q26) q27) q28) q29) q30) q31)
theorem over : Rows.reqValuesRow.holds Try.pinned (OpenSpec.ofChange Rows.reqValuesSpec) :=
  OpenClaim.holds_of_wide 7 Try.f7 rfl rfl rfl rfl rfl rfl rfl ⟨rfl, rfl, rfl, rfl, rfl⟩ rfl rfl rfl rfl rfl named Try.func7 joined
    (of_decide_eq_true (by kernel_rfl)) wrapped
    (fun os started H enc _ => lifted os started H enc)
theorem proved : Rows.ReqValuesSaid := over
end Go.Proofs.Ythfeohfahncfdaa.reqValues
namespace Go.Proofs.Ythfeohfahncfdaa
/-- The row, under a short name, for the claim. -/
theorem reqValues_holds : Rows.ReqValuesSaid := reqValues.proved
end Go.Proofs.Ythfeohfahncfdaa
#print axioms Go.Proofs.Ythfeohfahncfdaa.reqValues_holds
