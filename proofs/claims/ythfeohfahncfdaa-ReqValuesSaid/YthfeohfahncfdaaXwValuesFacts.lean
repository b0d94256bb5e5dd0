import Derived.Test.YthfeohfahncfdaaRows
import Derived.Test.YthfeohfahncfdaaChecked
import Derived.WalkKit
import Derived.ProofKit
namespace Go.Proofs.Ythfeohfahncfdaa.reqValues
open Go.RowKit
theorem q0 : (Rows.reqValuesRow.wf (OpenSpec.ofChange Rows.reqValuesSpec)) = true := by kernel_rfl
theorem q1 : (laidOutB Try.prog) = true := by kernel_rfl
theorem q2 : (mapsRowed Try.prog) = true := by kernel_rfl
theorem q3 : (Try.f7.params.all (Try.prog.readableRec ·)) = true := by kernel_rfl
theorem q4 : (namedTie Try.prog Rows.reqValuesRow.named Rows.reqValuesSpec.vars) = true := by kernel_rfl
theorem q5 : ((Rows.reqValuesRow.stops == [])) = true := by kernel_rfl
theorem q6 : ((Try.prog.stops == [])) = true := by kernel_rfl
theorem q7 : ((Rows.reqValuesRow.knobs == [])) = true := by kernel_rfl
theorem q8 : ((Try.prog.stopKnobs == [])) = true := by kernel_rfl
theorem q9 : ((Rows.reqValuesRow.inPlace == Try.prog.inPlace 7)) = true := by kernel_rfl
theorem q10 : ((Rows.reqValuesRow.unfollowed == Try.prog.unfollowed 7)) = true := by kernel_rfl
theorem q11 : ((Rows.reqValuesRow.recurses == Try.prog.recurses 7)) = true := by kernel_rfl
theorem q12 : ((Rows.reqValuesRow.named == Try.prog.varsNamed 7)) = true := by kernel_rfl
theorem q13 : ((Rows.reqValuesRow.maps == (Try.f7.params.toList ++ Rows.reqValuesSpec.plain.varTypes Try.prog).any (Try.prog.mapsRec ·))) = true := by kernel_rfl
theorem q14 : ((Rows.reqValuesRow.ifaces == (Try.f7.params.toList ++ Rows.reqValuesSpec.plain.varTypes Try.prog).any (Try.prog.ifacesRec ·))) = true := by kernel_rfl
theorem q15 : ((Rows.reqValuesRow.mapsOut == Try.prog.mapsAmong Try.f7.resultTypes.toList)) = true := by kernel_rfl
theorem q16 : ((Rows.reqValuesRow.loops == (Try.f7.params.toList ++ Rows.reqValuesSpec.plain.varTypes Try.prog).any (Try.prog.loopsFrom ·))) = true := by kernel_rfl
theorem q17 : ((Rows.reqValuesRow.wideKeys == (Try.f7.params.toList ++ Rows.reqValuesSpec.plain.varTypes Try.prog ++ Try.f7.resultTypes.toList).any (Try.prog.wideKeysFrom ·))) = true := by kernel_rfl
theorem q18 : (Rows.reqValuesSpec.vars.all (Try.prog.varReadable ·)) = true := by kernel_rfl
theorem q19 : (Try.f7.resultTypes.all (fun t => Try.prog.readableRec t && decide (t < Try.prog.types.size))) = true := by kernel_rfl
theorem q20 : ((Rows.reqValuesRow.ifacesOut == Try.f7.resultTypes.toList.any (Try.prog.ifacesRec ·))) = true := by kernel_rfl
theorem q21 : ((Rows.reqValuesRow.loopsOut == Try.f7.resultTypes.toList.any (Try.prog.loopsFrom ·))) = true := by kernel_rfl
theorem q22 : ((Rows.reqValuesRow.plainKeys == Try.prog.plainKeys)) = true := by kernel_rfl
theorem q23 : (Rows.reqValuesRow.shortTexts.isNone) = true := by kernel_rfl
theorem q24 : (Try.prog.stopsHeard) = true := by kernel_rfl
theorem q25 : (Try.prog.mayEnter) = true := by kernel_rfl
theorem q26 : ((Rows.reqValuesRow.lifted == Try.prog.liftsFinal)) = true := by kernel_rfl
theorem q27 : ((Try.prog.make == some Rows.reqValuesRow.make)) = true := by kernel_rfl
theorem q28 : ((Rows.reqValuesRow.kinds == (if Rows.reqValuesRow.domain.isEmpty then [] else Try.f7.params.toList.map fun t => match Try.prog.underlying t with | some (.int k) => some k | _ => none))) = true := by kernel_rfl
theorem q29 : ((Rows.reqValuesRow.pinned == Rows.reqValuesRow.pinnedBy)) = true := by kernel_rfl
theorem q30 : ((Rows.reqValuesRow.veiled == (Try.f7.params.toList ++ Rows.reqValuesSpec.plain.varTypes Try.prog ++ Try.f7.resultTypes.toList).any (Try.prog.veiledRec ·))) = true := by kernel_rfl
theorem q31 : (Rows.reqValuesRow.veiledFits Try.prog Try.f7.params.toList (Try.f7.params.toList ++ Rows.reqValuesSpec.plain.varTypes Try.prog ++ Try.f7.resultTypes.toList)) = true := by kernel_rfl
theorem named : Try.prog.funcNamed Rows.reqValuesRow.func = some 7 := by kernel_rfl
theorem wrapped : (Try.f7).isWrapper Try.prog Rows.reqValuesRow.wrapper Rows.reqValuesRow.mainSum := by unfold Func.isWrapper; first | (rw [if_pos (by decide +kernel)]; kernel_rfl) | (rw [if_neg (by decide +kernel)]; exact ⟨rfl, rfl⟩)
end Go.Proofs.Ythfeohfahncfdaa.reqValues
