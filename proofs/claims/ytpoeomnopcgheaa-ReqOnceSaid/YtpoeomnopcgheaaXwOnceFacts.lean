import Derived.Test.YtpoeomnopcgheaaRows
import Derived.Test.YtpoeomnopcgheaaChecked
import Derived.WalkKit
import Derived.ProofKit
namespace Go.Proofs.Ytpoeomnopcgheaa.reqOnce
open Go.RowKit
theorem q0 : (Rows.reqOnceRow.wf (OpenSpec.ofChange Rows.reqOnceSpec)) = true := by kernel_rfl
theorem q1 : (laidOutB Try.prog) = true := by kernel_rfl
theorem q2 : (mapsRowed Try.prog) = true := by kernel_rfl
theorem q3 : (Try.f4.params.all (Try.prog.readableRec ·)) = true := by kernel_rfl
theorem q4 : (namedTie Try.prog Rows.reqOnceRow.named Rows.reqOnceSpec.vars) = true := by kernel_rfl
theorem q5 : ((Rows.reqOnceRow.stops == [])) = true := by kernel_rfl
theorem q6 : ((Try.prog.stops == [])) = true := by kernel_rfl
theorem q7 : ((Rows.reqOnceRow.knobs == [])) = true := by kernel_rfl
theorem q8 : ((Try.prog.stopKnobs == [])) = true := by kernel_rfl
theorem q9 : ((Rows.reqOnceRow.inPlace == Try.prog.inPlace 4)) = true := by kernel_rfl
theorem q10 : ((Rows.reqOnceRow.unfollowed == Try.prog.unfollowed 4)) = true := by kernel_rfl
theorem q11 : ((Rows.reqOnceRow.recurses == Try.prog.recurses 4)) = true := by kernel_rfl
theorem q12 : ((Rows.reqOnceRow.named == Try.prog.varsNamed 4)) = true := by kernel_rfl
theorem q13 : ((Rows.reqOnceRow.maps == (Try.f4.params.toList ++ Rows.reqOnceSpec.plain.varTypes Try.prog).any (Try.prog.mapsRec ·))) = true := by kernel_rfl
theorem q14 : ((Rows.reqOnceRow.ifaces == (Try.f4.params.toList ++ Rows.reqOnceSpec.plain.varTypes Try.prog).any (Try.prog.ifacesRec ·))) = true := by kernel_rfl
theorem q15 : ((Rows.reqOnceRow.mapsOut == Try.prog.mapsAmong Try.f4.resultTypes.toList)) = true := by kernel_rfl
theorem q16 : ((Rows.reqOnceRow.loops == (Try.f4.params.toList ++ Rows.reqOnceSpec.plain.varTypes Try.prog).any (Try.prog.loopsFrom ·))) = true := by kernel_rfl
theorem q17 : ((Rows.reqOnceRow.wideKeys == (Try.f4.params.toList ++ Rows.reqOnceSpec.plain.varTypes Try.prog ++ Try.f4.resultTypes.toList).any (Try.prog.wideKeysFrom ·))) = true := by kernel_rfl
theorem q18 : (Rows.reqOnceSpec.vars.all (Try.prog.varReadable ·)) = true := by kernel_rfl
theorem q19 : (Try.f4.resultTypes.all (fun t => Try.prog.readableRec t && decide (t < Try.prog.types.size))) = true := by kernel_rfl
theorem q20 : ((Rows.reqOnceRow.ifacesOut == Try.f4.resultTypes.toList.any (Try.prog.ifacesRec ·))) = true := by kernel_rfl
theorem q21 : ((Rows.reqOnceRow.loopsOut == Try.f4.resultTypes.toList.any (Try.prog.loopsFrom ·))) = true := by kernel_rfl
theorem q22 : ((Rows.reqOnceRow.plainKeys == Try.prog.plainKeys)) = true := by kernel_rfl
theorem q23 : (Rows.reqOnceRow.shortTexts.isNone) = true := by kernel_rfl
theorem q24 : (Try.prog.stopsHeard) = true := by kernel_rfl
theorem q25 : (Try.prog.mayEnter) = true := by kernel_rfl
theorem q26 : ((Rows.reqOnceRow.lifted == Try.prog.liftsFinal)) = true := by kernel_rfl
theorem q27 : ((Try.prog.make == some Rows.reqOnceRow.make)) = true := by kernel_rfl
theorem q28 : ((Rows.reqOnceRow.kinds == (if Rows.reqOnceRow.domain.isEmpty then [] else Try.f4.params.toList.map fun t => match Try.prog.underlying t with | some (.int k) => some k | _ => none))) = true := by kernel_rfl
theorem q29 : ((Rows.reqOnceRow.pinned == Rows.reqOnceRow.pinnedBy)) = true := by kernel_rfl
theorem q30 : ((Rows.reqOnceRow.veiled == (Try.f4.params.toList ++ Rows.reqOnceSpec.plain.varTypes Try.prog ++ Try.f4.resultTypes.toList).any (Try.prog.veiledRec ·))) = true := by kernel_rfl
theorem q31 : (Rows.reqOnceRow.veiledFits Try.prog Try.f4.params.toList (Try.f4.params.toList ++ Rows.reqOnceSpec.plain.varTypes Try.prog ++ Try.f4.resultTypes.toList)) = true := by kernel_rfl
theorem named : Try.prog.funcNamed Rows.reqOnceRow.func = some 4 := by kernel_rfl
theorem wrapped : (Try.f4).isWrapper Try.prog Rows.reqOnceRow.wrapper Rows.reqOnceRow.mainSum := by unfold Func.isWrapper; first | (rw [if_pos (by decide +kernel)]; kernel_rfl) | (rw [if_neg (by decide +kernel)]; exact ⟨rfl, rfl⟩)
end Go.Proofs.Ytpoeomnopcgheaa.reqOnce
