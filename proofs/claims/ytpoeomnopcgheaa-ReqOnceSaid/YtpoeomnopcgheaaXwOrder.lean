import Derived.Test.YtpoeomnopcgheaaXwLaw3
namespace Go.Proofs.Xw
open Go.RowKit Go.Xw

def W0 : Rq := ⟨2, [0], [0]⟩
def TT (n : Nat) : Tab := ⟨16, (List.range n).map (fun j : Nat => ((j : Int) + 1, W0)), []⟩
theorem TT_zero : TT 0 = Tab.new 16 := rfl
theorem TT_find (n : Nat) : afind (TT n).R ((n : Int) + 1) = none := by
  rw [afind_none_iff]
  simp [TT]
  intro x hx; omega
theorem TT_open {n : Nat} (h : n < 16) : (TT n).openC ((n : Int) + 1) 2 1 = 0 ∧ (TT n).open' ((n : Int) + 1) 2 1 = TT (n + 1) := by
  have h0 : (TT n).openC ((n : Int) + 1) 2 1 = 0 := by
    rw [Tab.openC, if_neg (by omega), TT_find]
    simp [TT]; omega
  refine ⟨h0, ?_⟩
  rw [Tab.open', if_pos h0]
  simp [TT, List.range_succ, W0, Rq.new]

structure OInv (T : Tab) (l : List Ans) : Prop where
  reqs : ∀ q ∈ T.R, q.2 = W0
  kept : T.kept = l
  len : T.R.length + l.length = 16
  ids : T.ids
theorem OInv.start : OInv (TT 16) [] := by
  refine ⟨?_, rfl, rfl, ?_⟩
  · intro q hq; simp [TT] at hq; obtain ⟨a, _, rfl⟩ := hq; rfl
  · intro q hq; simp [TT] at hq; obtain ⟨a, ha, rfl⟩ := hq; simp; omega
theorem OInv.step {T : Tab} {l : List Ans} (h : OInv T l) {id : Int} {r : Rq} (hf : afind T.R id = some r) {what : Int} (hwh : what = 1 ∨ what = 2) (value : Int) :
    OInv (T.put id 0 what value) (l ++ [⟨id, if what = 2 then 7 else 0, []⟩]) := by
  have hm := mem_of_afind hf
  have hr : r = W0 := h.reqs _ hm
  subst hr
  have h0 : T.putC id 0 = 0 := by simp [Tab.putC, hf, W0]
  have hs : T.put id 0 what value = { T with R := adel T.R id, kept := T.kept ++ [⟨id, if what = 2 then 7 else 0, []⟩] } := by
    rw [Tab.put, if_pos h0, hf]
    simp only [Tab.settle, Rq.put, W0]
    rcases hwh with rfl | rfl <;> simp [ansOf]
  rw [hs]
  have hk : ((adel T.R id).map (·.1)).length + 1 = (T.R.map (·.1)).length := by
    rw [adel_keys, List.length_erase_of_mem (List.mem_map.2 ⟨_, hm, rfl⟩)]
    have : 0 < (T.R.map (·.1)).length := List.length_pos_of_mem (List.mem_map.2 ⟨_, hm, rfl⟩)
    omega
  have hl := h.len
  refine ⟨fun q hq => h.reqs q (mem_adel hq), by simp [h.kept], by simp at hk ⊢; omega, fun q hq => h.ids q (mem_adel hq)⟩
theorem OInv.kind_none {T : Tab} {id : Int} (hf : afind T.R id = none) : T.kind id = 0 := by simp [Tab.kind, hf]
theorem OInv.kind_some {T : Tab} {l : List Ans} (h : OInv T l) {id : Int} {r : Rq} (hf : afind T.R id = some r) : T.kind id = 2 := by
  have hr : r = W0 := h.reqs _ (mem_of_afind hf)
  simp [Tab.kind, hf, hr, W0]

/-- Answers without values that a slice of our own holds. -/
def WOwn (w : World) (v : Value) (l : List Ans) : Prop :=
  w.ownsRow 0 49 3 v l.length (ansCells l (List.replicate l.length (.slice none 0 0))) ∧ ∀ a ∈ l, a.vals = []
theorem WOwn.nil (w : World) : WOwn w (.slice none 0 0) [] := ⟨⟨rfl, .inl ⟨rfl, rfl⟩⟩, by simp⟩
theorem WOwn.keep {w w' : World} {v : Value} {l : List Ans} (h : WOwn w v l) {F : Nat → Prop} (k : Keep F w w') (hn : ∀ g, v.ownBlock = some g → ¬ F g) : WOwn w' v l := ⟨ownsRow_keep h.1 k hn, h.2⟩
theorem WOwn.read {w : World} {v : Value} {l : List Ans} (h : WOwn w v l) : AnsR w v l := by
  refine ⟨_, by simp, SlR.of_owns h.1, fun i a u ha hu => ?_⟩
  have := h.2 a (List.mem_of_getElem? ha)
  rw [List.getElem?_replicate] at hu
  split at hu
  · cases hu; rw [this]; exact ⟨rfl, .inl ⟨rfl, rfl⟩⟩
  · cases hu
theorem WOwn.push {w : World} {v : Value} {l : List Ans} {a : Ans} (h : w.ownsRow 0 49 3 v (l.length + 1) (ansCells l (List.replicate l.length (.slice none 0 0)) ++ [.int .i64 a.id, .int .i64 a.code, .slice none 0 0])) (hl : ∀ a ∈ l, a.vals = []) (ha : a.vals = []) : WOwn w v (l ++ [a]) := by
  refine ⟨?_, ?_⟩
  · have := ansCells_app l (List.replicate l.length (.slice none 0 0)) a (.slice none 0 0) (by simp)
    rw [List.length_append, List.length_singleton, List.replicate_succ', this]; exact h
  · intro b hb
    rcases List.mem_append.1 hb with hb | hb
    · exact hl b hb
    · simp at hb; rw [hb]; exact ha
end Go.Proofs.Xw
