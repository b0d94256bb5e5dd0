import Derived.Test.YtpoeomnopcgheaaXwOnce2
namespace Go.Proofs.Xw
open Go.RowKit Go.Xw Go.ChangeShapes

theorem wf64 {x : Int} (h : (Lit.int .i64 x).wf = true) : -9223372036854775808 ≤ x ∧ x ≤ 9223372036854775807 := by
  have e1 : IntKind.i64.min = -9223372036854775808 := by decide
  have e2 : IntKind.i64.max = 9223372036854775807 := by decide
  simpa only [Lit.wf, e1, e2, Bool.and_eq_true, decide_eq_true_eq] using h
theorem len5 {α : Type} {l : List α} (h : l.length = 5) : ∃ a b c d e, l = [a, b, c, d, e] := by
  rcases l with _ | ⟨a, _ | ⟨b, _ | ⟨c, _ | ⟨d, _ | ⟨e, _ | ⟨f, l⟩⟩⟩⟩⟩⟩ <;> simp at h
  exact ⟨a, b, c, d, e, rfl⟩
theorem act17_of {H : Type} {enc : TypeId × Value → H} {w : World} {base : Nat} {spare : Nat → Bool} {held : Bool} {cs : List Value} {n : Nat} {y : DataW H × List MemPlace}
    (hl : cs.length = 5) (h : DataW.trod enc Try.prog w base spare held n 32 cs = some y) : Act17 cs := by
  obtain ⟨xs, m, _, _, _, hx, hf⟩ := DataW.trod_struct Try.underlying32 h
  obtain ⟨a, b, c, d, e, rfl⟩ := len5 hl
  obtain ⟨x0, x1, x2, x3, x4, rfl⟩ := len5 (show xs.length = 5 from hx)
  have g0 : DataW.trod enc Try.prog w base spare held m 3 ((([a, b, c, d, e] : List Value).drop 0).take (Try.prog.cellsOf 3)) = some x0 := hf 0 _ rfl
  have g1 : DataW.trod enc Try.prog w base spare held m 3 ((([a, b, c, d, e] : List Value).drop 1).take (Try.prog.cellsOf 3)) = some x1 := hf 1 _ rfl
  have g2 : DataW.trod enc Try.prog w base spare held m 3 ((([a, b, c, d, e] : List Value).drop 2).take (Try.prog.cellsOf 3)) = some x2 := hf 2 _ rfl
  have g3 : DataW.trod enc Try.prog w base spare held m 3 ((([a, b, c, d, e] : List Value).drop 3).take (Try.prog.cellsOf 3)) = some x3 := hf 3 _ rfl
  have g4 : DataW.trod enc Try.prog w base spare held m 30 ((([a, b, c, d, e] : List Value).drop 4).take (Try.prog.cellsOf 30)) = some x4 := hf 4 _ rfl
  rw [show Try.prog.cellsOf 3 = 1 by kernel_rfl] at g0 g1 g2 g3
  rw [show Try.prog.cellsOf 30 = 1 by kernel_rfl] at g4
  obtain ⟨n0, e0, _, w0⟩ := DataW.trod_int Try.underlying3 g0
  obtain ⟨n1, e1, _, w1⟩ := DataW.trod_int Try.underlying3 g1
  obtain ⟨n2, e2, _, w2⟩ := DataW.trod_int Try.underlying3 g2
  obtain ⟨n3, e3, _, w3⟩ := DataW.trod_int Try.underlying3 g3
  obtain ⟨n4, e4, _, w4⟩ := DataW.trod_int Try.underlying30 g4
  simp at e0 e1 e2 e3 e4
  subst e0 e1 e2 e3 e4
  exact ⟨n0, n1, n2, n3, n4, rfl, (wf64 w1).2⟩
end Go.Proofs.Xw
