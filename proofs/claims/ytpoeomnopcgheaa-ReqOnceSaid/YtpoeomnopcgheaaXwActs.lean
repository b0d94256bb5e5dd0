/- A slice of structs that came in: its elements, as far as its length goes. -/
import Derived.Test.YtpoeomnopcgheaaXwFrame
import Derived.Deep.Slices
import Derived.ChangeArms
namespace Go.Xw
open Go.RowKit Go.ChangeShapes

/-- The elements of a slice that came in, 's' cells each: 'rows k' are the cells of the k-th. -/
def InR (w : World) (s : Nat) (a : Option Addr) (n cap : Nat) (rows : Nat → List Value) : Prop :=
  n ≤ maxLen ∧ ∀ k, k < n → ∃ b off, a = some ⟨b, off, none⟩ ∧ n ≤ cap ∧ b < w.heap.size ∧ (rows k).length = s ∧ w.rangeAt b (off + k * s) (rows k)
theorem InR.at_ {w w' : World} {s : Nat} {a : Option Addr} {n cap : Nat} {rows : Nat → List Value} (h : InR w s a n cap rows) (k : Keep (fun _ => False) w w') {j : Nat} (hj : j < n) :
    ∃ b off, a = some ⟨b, off, none⟩ ∧ n ≤ cap ∧ b < w.heap.size ∧ (rows j).length = s ∧ w'.rangeAt b (off + j * s) (rows j) := by
  obtain ⟨b, off, h1, h2, h3, h4, h5⟩ := h.2 j hj
  exact ⟨b, off, h1, h2, h3, h4, fun i v hv => (k.cell (a := ⟨b, _, none⟩) h3 (fun f => f)).trans (h5 i v hv)⟩
theorem cell_lt {w : World} {a : Addr} {v : Value} (h : w.cell? a = some v) : a.block < w.heap.size ∧ a.spot = none := by
  unfold World.cell? at h
  split at h
  · rename_i c E fr hb
    refine ⟨(Array.getElem?_eq_some_iff.1 hb).1, ?_⟩
    cases hs : a.spot with
    | none => rfl
    | some x => simp [hs] at h
  · cases h
/-- OPENED: a slice of structs of 's' cells (at least one), each of which reads as 'Good' says. -/
theorem open_structs {H : Type} {enc : TypeId × Value → H} {P : Program} {w : World} {base : Nat} {spare : Nat → Bool} {held : Bool} {t e : TypeId} {fuel : Nat} {cs : List Value} {x : DataW H × List MemPlace} {s : Nat} (Good : List Value → Prop)
    (ht : P.underlying t = some (.slice e)) (hs : P.cellsOf e = s) (h0 : 0 < s) (hG : ∀ (cs : List Value) (n : Nat) (y : DataW H × List MemPlace), cs.length = s → DataW.trod enc P w base spare held n e cs = some y → Good cs)
    (h : DataW.trod enc P w base spare held fuel t cs = some x) :
    ∃ a n cap rows, cs = [.slice a n cap] ∧ InR w s a n cap rows ∧ ∀ k, k < n → Good (rows k) := by
  rcases Go.Deep.open_slice ht h with ⟨rfl, _⟩ | ⟨a, len, cap, m, n, D, Pl, rfl, _, hl, hm, hmm, _, hx⟩
  · exact ⟨none, 0, 0, fun _ => [], rfl, ⟨by decide, fun k hk => by omega⟩, fun k hk => by omega⟩
  · have hlm : len ≤ m := by rw [hmm]; split <;> omega
    have each : ∀ i, i < len → ∃ cs' : List Value, cs'.length = s ∧ Good cs' ∧ ∀ j, j < s → w.cell? ((a.add (i * s)).add j) = cs'[j]? := by
      intro i hi
      obtain ⟨cs', h1, h2⟩ := hx i (by omega)
      rw [hs] at h1
      obtain ⟨_, hlen, hcell⟩ := World.cells?_some h1
      exact ⟨cs', hlen, hG cs' _ _ hlen h2, hcell⟩
    obtain ⟨rows, hrows⟩ := Go.Deep.choose_lt each
    refine ⟨some a, len, cap, rows, rfl, ⟨by omega, fun k hk => ?_⟩, fun k hk => (hrows k hk).2.1⟩
    obtain ⟨h1, _, h3⟩ := hrows k hk
    have hz := (hrows 0 (by omega)).2.2 0 h0
    have hz' : w.cell? a = some ((rows 0)[0]'(by have := (hrows 0 (by omega)).1; omega)) := by
      have e : (a.add (0 * s)).add 0 = a := by simp [Addr.add]
      rw [e, List.getElem?_eq_getElem (by have := (hrows 0 (by omega)).1; omega)] at hz
      exact hz
    obtain ⟨ablk, aoff, aspot⟩ := a
    obtain ⟨hlt, hsp⟩ := cell_lt hz'
    simp only at hlt hsp
    subst hsp
    refine ⟨ablk, aoff, rfl, hl, hlt, h1, fun j v hv => ?_⟩
    have hj := (List.getElem?_eq_some_iff.1 hv).1
    have := h3 j (by omega)
    rw [Addr.add_mid, Addr.add_mid] at this
    rw [this]; exact hv
end Go.Xw
