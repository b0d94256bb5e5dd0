/- append, in one law: onto a slice of our own, from whatever slice that can be read. -/
import Derived.Test.YtpoeomnopcgheaaXwMap
import Derived.Maps.AppendAt
import Derived.Laws.AppendOwnNone
namespace Go.Xw
open Go.RowKit

/-- A slice value that reads as some cells, 's' cells an element. -/
def SlR (w : World) (s : Nat) (v : Value) (n : Nat) (xs : List Value) : Prop :=
  xs.length = n * s ∧ ((v = .slice none 0 0 ∧ n = 0) ∨ ∃ b off cap, v = .slice (some ⟨b, off, none⟩) n cap ∧ n ≤ cap ∧ cap ≤ maxLen ∧ b < w.heap.size ∧ w.rangeAt b off xs)
theorem SlR.keep {w w' : World} {s : Nat} {v : Value} {n : Nat} {xs : List Value} (h : SlR w s v n xs) {F : Nat → Prop} (k : Keep F w w') (hn : ∀ g, v.ownBlock = some g → ¬ F g) : SlR w' s v n xs := by
  obtain ⟨h1, h2⟩ := h
  refine ⟨h1, ?_⟩
  rcases h2 with h2 | ⟨b, off, cap, rfl, h3, h4, h5, h6⟩
  · exact .inl h2
  · exact .inr ⟨b, off, cap, rfl, h3, h4, Nat.lt_of_lt_of_le h5 k.size, fun j x hx => (k.cell (a := ⟨b, off + j, none⟩) h5 (hn b rfl)).trans (h6 j x hx)⟩
theorem SlR.of_owns {w : World} {base : Nat} {e : TypeId} {s : Nat} {v : Value} {n : Nat} {xs : List Value} (h : w.ownsRow base e s v n xs) : SlR w s v n xs := by
  refine ⟨h.1, ?_⟩
  rcases h.2 with h2 | ⟨g, cap, cur, rfl, hg, hh, hn, hc, hz, ht⟩
  · exact .inl h2
  · refine .inr ⟨g, 0, cap, rfl, hn, hc, lt_of hh, fun j x hx => cell_of hh ?_⟩
    rw [← ht] at hx
    have hj := (List.getElem?_eq_some_iff.1 hx).1
    rw [List.getElem?_take_of_lt (by simp at hj; omega)] at hx
    simpa using hx
theorem SlR.lt {w : World} {s : Nat} {v : Value} {n : Nat} {xs : List Value} (h : SlR w s v n xs) {g : Nat} (hg : v.ownBlock = some g) : g < w.heap.size := by
  rcases h.2 with ⟨rfl, _⟩ | ⟨b, off, cap, rfl, _, _, h5, _⟩
  · cases hg
  · cases hg; exact h5
theorem SlR.form {w : World} {s : Nat} {v : Value} {n : Nat} {xs : List Value} (h : SlR w s v n xs) : ∃ a cap, v = .slice a n cap := by
  rcases h.2 with ⟨rfl, rfl⟩ | ⟨b, off, cap, rfl, _⟩
  · exact ⟨none, 0, rfl⟩
  · exact ⟨_, _, rfl⟩
theorem owns_form {w : World} {base : Nat} {e : TypeId} {s : Nat} {v : Value} {n : Nat} {xs : List Value} (h : w.ownsRow base e s v n xs) : ∃ a cap, v = .slice a n cap := (SlR.of_owns h).form

theorem wpList_appendX {P : Program} (w : World) {ops : Array Oper} {rest : List Oper} {o : Oper} {a : Act} {Q : Exit → Act → World → Prop} (hgd : o.guard = none) (s x : Operand) (t : TypeId)
    (ho : o.op = .call { callee := .builtin .append, args := #[s, x], argTypes := #[t, t] })
    {e : TypeId} {z : Value} {size bytes : Nat} (ht : P.underlying t = some (.slice e)) (hinfo : (P.info? e).map (fun i => (i.zero, i.size, i.bytes)) = some (some z, size, bytes)) (hzs : z.cells.size = size) (hsz : 0 < size)
    (v : Value) (n : Nat) (xs : List Value) (hs : a.eval s = v) (hown : w.ownsRow 0 e size v n xs)
    (u : Value) (m : Nat) (news : List Value) (hx : a.eval x = u) (hr : SlR w size u m news) (h1 : ∀ u ∈ news, u.oneCell' = true)
    (h63 : n + m ≤ maxLen) (hbytes : (n + m) * bytes ≤ 140737488355328)
    (h : ∀ a' cap' w', w'.ownsRow 0 e size (.slice a' (n + m) cap') (n + m) (xs ++ news) → Keep (fun k => v.ownBlock = some k) w w' →
      ((Value.slice a' (n + m) cap').ownBlock = v.ownBlock ∨ ∃ g, (Value.slice a' (n + m) cap').ownBlock = some g ∧ w.heap.size ≤ g) → wpList P ops Q rest (a.put o.dst (.slice a' (n + m) cap')) w') : wpList P ops Q (o :: rest) a w := by
  obtain ⟨i, hi, hz0, hz1, hz2⟩ := info_parts hinfo
  obtain ⟨hl, hr | ⟨b, off, cap, rfl, _, _, hb, hra⟩⟩ := hr
  · obtain ⟨rfl, rfl⟩ := hr
    have hnews : news = [] := List.eq_nil_of_length_eq_zero (by simpa using hl)
    subst hnews
    obtain ⟨a', cap', rfl⟩ := owns_form hown
    refine wpList_append_own_none hgd s x t ho 0 e i size ht hi _ n xs hs hown hx ?_
    exact h a' cap' w (by simpa using hown) (Keep.refl _ _) (.inl rfl)
  · refine wpList_append_own_at w hgd s x t ho 0 e i z size bytes ht hi hz0 hz1 hz2 hzs hsz v n xs hs hown ⟨b, off, none⟩ m cap news hx hl (fun j u hu => by rw [Addr.add_mid]; exact hra j u hu) h1 h63 hbytes (Nat.zero_le _) ?_
    intro v' w' ho' hg' _ hloc
    obtain ⟨a', cap', rfl⟩ := owns_form ho'
    exact h a' cap' w' ho' ((Keep.of_grownBy hg').mono fun k _ e => e.symm) (hloc.imp id fun e => ⟨_, e, Nat.le_refl _⟩)
end Go.Xw
