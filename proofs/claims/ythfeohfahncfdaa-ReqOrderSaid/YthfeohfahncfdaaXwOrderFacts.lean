import Derived.Test.YthfeohfahncfdaaRows
import Derived.Test.YthfeohfahncfdaaChecked
import Derived.WalkKit
import Derived.ProofKit
namespace Go.Proofs.Ythfeohfahncfdaa.reqOrder
open Go.RowKit
theorem q0 : (Rows.reqOrderRow.wf (OpenSpec.ofChange Rows.reqOrderSpec)) = true := by kernel_rfl
theorem q1 : (laidOutB Try.prog) = true := by kernel_rfl
theorem q2 : (mapsRowed Try.prog) = true := by kernel_rfl
theorem q3 : (Try.f6.params.all (Try.prog.readableRec ·)) = true := by kernel_rfl
theorem q4 : (namedTie Try.prog Rows.reqOrderRow.named Rows.reqOrderSpec.vars) = true := by kernel_rfl
theorem q5 : ((Rows.reqOrderRow.stops == [])) = true := by kernel_rfl
theorem q6 : ((Try.prog.stops == [])) = true := by kernel_rfl
theorem q7 : ((Rows.reqOrderRow.knobs == [])) = true := by kernel_rfl
theorem q8 : ((Try.prog.stopKnobs == [])) = true := by kernel_rfl
theorem q9 : ((Rows.reqOrderRow.inPlace == Try.prog.inPlace 6)) = true := by kernel_rfl
theorem q10 : ((Rows.reqOrderRow.unfollowed == Try.prog.unfollowed 6)) = true := by kernel_rfl
theorem q11 : ((Rows.reqOrderRow.recurses == Try.prog.recurses 6)) = true := by kernel_rfl
theorem q12 : ((Rows.reqOrderRow.named == Try.prog.varsNamed 6)) = true := by kernel_rfl
theorem q13 : ((Rows.reqOrderRow.maps == (Try.f6.params.toList ++ Rows.reqOrderSpec.plain.varTypes Try.prog).any (Try.prog.mapsRec ·))) = true := by kernel_rfl
theorem q14 : ((Rows.reqOrderRow.ifaces == (Try.f6.params.toList ++ Rows.reqOrderSpec.plain.varTypes Try.prog).any (Try.prog.ifacesRec ·))) = true := by kernel_rfl
theorem q15 : ((Rows.reqOrderRow.mapsOut == Try.prog.mapsAmong Try.f6.resultTypes.toList)) = true := by kernel_rfl
theorem q16 : ((Rows.reqOrderRow.loops == (Try.f6.params.toList ++ Rows.reqOrderSpec.plain.varTypes Try.prog).any (Try.prog.loopsFrom ·))) = true := by kernel_rfl
theorem q17 : ((Rows.reqOrderRow.wideKeys == (Try.f6.params.toList ++ Rows.reqOrderSpec.plain.varTypes Try.prog ++ Try.f6.resultTypes.toList).any (Try.prog.wideKeysFrom ·))) = true := by kernel_rfl
theorem q18 : (Rows.reqOrderSpec.vars.all (Try.prog.varReadable ·)) = true := by kernel_rfl
theorem q19 : (Try.f6.resultTypes.all (fun t => Try.prog.readableRec t && decide (t < Try.prog.types.size))) = true := by kernel_rfl
theorem q20 : ((Rows.reqOrderRow.ifacesOut == Try.f6.resultTypes.toList.any (Try.prog.ifacesRec ·))) = true := by kernel_rfl
theorem q21 : ((Rows.reqOrderRow.loopsOut == Try.f6.resultTypes.toList.any (Try.prog.loopsFrom ·))) = true := by kernel_rfl
theorem q22 : ((Rows.reqOrderRow.plainKeys == Try.prog.plainKeys)) = true := by kernel_rfl
theorem q23 : (Rows.reqOrderRow.shortTexts.isNone) = true := by kernel_rfl
theorem q24 : (Try.prog.stopsHeard) = true := by kernel_rfl
theorem q25 : (Try.prog.mayEnter) = true := by kernel_rfl
theorem q26 : ((Rows.reqOrderRow.lifted == Try.prog.liftsFinal)) = true := by kernel_rfl
theorem q27 : ((Try.prog.make == some Rows.reqOrderRow.make)) = true := by kernel_rfl
theorem q28 : ((Rows.reqOrderRow.kinds == (if Rows.reqOrderRow.domain.isEmpty then [] else Try.f6.params.toList.map fun t => match Try.prog.underlying t with | some (.int k) => some k | _ => none))) = true := by kernel_rfl
theorem q29 : ((Rows.reqOrderRow.pinned == Rows.reqOrderRow.pinnedBy)) = true := by kernel_rfl
theorem q30 : ((Rows.reqOrderRow.veiled == (Try.f6.params.toList ++ Rows.reqOrderSpec.plain.varTypes Try.prog ++ Try.f6.resultTypes.toList).any (Try.prog.veiledRec ·))) = true := by kernel_rfl
theorem q31 : (Rows.reqOrderRow.veiledFits Try.prog Try.f6.params.toList (Try.f6.params.toList ++ Rows.reqOrderSpec.plain.varTypes Try.prog ++ Try.f6.resultTypes.toList)) = true := by kernel_rfl
theorem named : Try.prog.funcNamed Rows.reqOrderRow.func = some 6 := by kernel_rfl
theorem wrapped : (Try.f6).isWrapper Try.prog Rows.reqOrderRow.wrapper Rows.reqOrderRow.mainSum := by unfold Func.isWrapper; first | (rw [if_pos (by decide +kernel)]; kernel_rfl) | (rw [if_neg (by decide +kernel)]; exact ⟨rfl, rfl⟩)
end Go.Proofs.Ythfeohfahncfdaa.reqOrder
