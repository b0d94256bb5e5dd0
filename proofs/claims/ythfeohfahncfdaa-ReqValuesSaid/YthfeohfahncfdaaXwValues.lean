import Derived.Test.YthfeohfahncfdaaXwLaw3
namespace Go.Proofs.Xw
open Go.RowKit Go.Xw

def vk (a b i : Nat) : Nat := (a + i * b) % 8
def vis (a b i k : Nat) : Bool := (List.range i).any fun j => vk a b j == k
def vleft (a b n i : Nat) : Nat := ((List.range n).filter fun k => !vis a b i k).length
def vpl (a b n i : Nat) : List Int := (List.range n).map fun k => if vis a b i k then 1 else 0
def vvs (V : List Int) (a b n i : Nat) : List Int := (List.range n).map fun k => if vis a b i k then V.getD k 0 else 0
def VT (V : List Int) (a b n i : Nat) : Tab := if vleft a b n i = 0 then ⟨1, [], [⟨3, 0, V.take n⟩]⟩ else ⟨1, [((3 : Int), ⟨1, vpl a b n i, vvs V a b n i⟩)], []⟩
def vfact (a b n i : Nat) : Bool :=
  if vk a b i < n then !vis a b i (vk a b i) && (vleft a b n (i + 1) + 1 == vleft a b n i) else vleft a b n (i + 1) == vleft a b n i
theorem vfacts : ∀ a < 8, ∀ b ∈ [1, 3, 5, 7], ∀ n < 9, ∀ i < 8, vfact a b n i = true := by decide +kernel
theorem vends : ∀ a < 8, ∀ b ∈ [1, 3, 5, 7], ∀ n < 9, vleft a b n 8 = 0 ∧ vleft a b n 0 = n := by decide +kernel
theorem vis_succ (a b i k : Nat) : vis a b (i + 1) k = (vis a b i k || vk a b i == k) := by simp [vis, List.range_succ]
theorem vpl_zero (a b n i : Nat) : (0 : Int) ∈ vpl a b n i ↔ vleft a b n i ≠ 0 := by
  simp only [vpl, vleft, List.mem_map, ne_eq, List.length_eq_zero_iff, List.filter_eq_nil_iff]
  constructor
  · rintro ⟨k, hk, h⟩ hn
    have := hn k hk
    split at h
    · omega
    · rename_i hv; simp at this; exact hv this
  · intro h
    apply Classical.byContradiction
    intro hn
    apply h
    intro k hk hv
    exact hn ⟨k, hk, by simp at hv; simp [hv]⟩
theorem vpl_succ {a b n i : Nat} (h : vk a b i < n) : vpl a b n (i + 1) = (vpl a b n i).set (vk a b i) 1 := by
  apply List.ext_getElem?
  intro j
  simp only [vpl, List.getElem?_set, List.getElem?_map, List.length_map, List.length_range, vis_succ]
  by_cases hj : vk a b i = j
  · subst hj; simp [h]
  · simp only [hj, if_false]
    cases hr : (List.range n)[j]? with
    | none => rfl
    | some x =>
      have : x = j := by
        have hl := (List.getElem?_eq_some_iff.1 hr).1
        rw [List.getElem?_range (by simpa using hl)] at hr; exact (Option.some.inj hr).symm
      subst this
      have hb : (vk a b i == x) = false := by simpa using hj
      simp only [Option.map_some, hb, Bool.or_false]
theorem vvs_succ {V : List Int} {a b n i : Nat} (h : vk a b i < n) : vvs V a b n (i + 1) = (vvs V a b n i).set (vk a b i) (V.getD (vk a b i) 0) := by
  apply List.ext_getElem?
  intro j
  simp only [vvs, List.getElem?_set, List.getElem?_map, List.length_map, List.length_range, vis_succ]
  by_cases hj : vk a b i = j
  · subst hj; simp [h]
  · simp only [hj, if_false]
    cases hr : (List.range n)[j]? with
    | none => rfl
    | some x =>
      have : x = j := by
        have hl := (List.getElem?_eq_some_iff.1 hr).1
        rw [List.getElem?_range (by simpa using hl)] at hr; exact (Option.some.inj hr).symm
      subst this
      have hb : (vk a b i == x) = false := by simpa using hj
      simp only [Option.map_some, hb, Bool.or_false]
theorem v_same {V : List Int} {a b n i : Nat} (h : ¬ vk a b i < n) (hl : vleft a b n (i + 1) = vleft a b n i) : VT V a b n (i + 1) = VT V a b n i := by
  have e : ∀ k ∈ List.range n, vis a b (i + 1) k = vis a b i k := by
    intro k hk
    have : (vk a b i == k) = false := by simp at hk ⊢; omega
    rw [vis_succ, this, Bool.or_false]
  have e1 : vpl a b n (i + 1) = vpl a b n i := List.map_congr_left fun k hk => by rw [e k hk]
  have e2 : vvs V a b n (i + 1) = vvs V a b n i := List.map_congr_left fun k hk => by rw [e k hk]
  rw [VT, VT, hl, e1, e2]
theorem vvs_full {V : List Int} {a b n i : Nat} (h : vleft a b n i = 0) (hV : n ≤ V.length) : vvs V a b n i = V.take n := by
  have hv : ∀ k ∈ List.range n, vis a b i k = true := by
    intro k hk
    simp only [vleft, List.length_eq_zero_iff, List.filter_eq_nil_iff] at h
    have := h k hk
    simpa using this
  have : vvs V a b n i = (List.range n).map fun k => V.getD k 0 := List.map_congr_left fun k hk => by rw [hv k hk]; rfl
  rw [this]
  apply List.ext_getElem?
  intro j
  by_cases hj : j < n
  · rw [List.getElem?_map, List.getElem?_range hj, List.getElem?_take_of_lt hj]
    simp [List.getElem?_eq_getElem (show j < V.length by omega)]
  · rw [List.getElem?_eq_none (by simp; omega), List.getElem?_eq_none (by simp; omega)]

theorem VT_start {V : List Int} {a b n : Nat} (h1 : 1 ≤ n) (h8 : n ≤ 8) (h0 : vleft a b n 0 = n) : (Tab.new 1).openC 3 1 n = 0 ∧ (Tab.new 1).open' 3 1 n = VT V a b n 0 := by
  have hc : (Tab.new 1).openC 3 1 n = 0 := by
    rw [Tab.openC, if_neg (by omega)]; simp [Tab.new, afind]
  refine ⟨hc, ?_⟩
  rw [Tab.open', if_pos hc, VT, if_neg (by omega)]
  simp [Tab.new, Rq.new, vpl, vvs, vis, List.map_const']
theorem VT_give {V : List Int} {a b n i : Nat} (hV : n ≤ V.length) (hk : vk a b i < n) (hv : vis a b i (vk a b i) = false) (hl : vleft a b n (i + 1) + 1 = vleft a b n i) :
    (VT V a b n i).putC 3 (vk a b i) = 0 ∧ (VT V a b n i).put 3 (vk a b i) 1 (V.getD (vk a b i) 0) = VT V a b n (i + 1) := by
  have e : VT V a b n i = ⟨1, [((3 : Int), ⟨1, vpl a b n i, vvs V a b n i⟩)], []⟩ := by rw [VT, if_neg (by omega)]
  have hf : afind ([((3 : Int), (⟨1, vpl a b n i, vvs V a b n i⟩ : Rq))]) 3 = some ⟨1, vpl a b n i, vvs V a b n i⟩ := by simp [afind]
  have hc : (VT V a b n i).putC 3 (vk a b i) = 0 := by
    rw [e, Tab.putC]
    simp only [hf]
    have h1 : ¬ ((vk a b i : Int) < 0 ∨ ((vpl a b n i).length : Int) ≤ (vk a b i : Int)) := by simp [vpl]; omega
    rw [if_neg h1]
    simp [vpl, List.getElem?_range hk, hv]
  refine ⟨hc, ?_⟩
  rw [Tab.put, if_pos hc, e]
  simp only [hf, Int.toNat_natCast]
  rw [Tab.settle]
  have hp : (Rq.put ⟨1, vpl a b n i, vvs V a b n i⟩ (vk a b i) 1 (V.getD (vk a b i) 0)) = ⟨1, vpl a b n (i + 1), vvs V a b n (i + 1)⟩ := by rw [Rq.put, vpl_succ hk, vvs_succ hk]
  rw [hp]
  have h0 := vpl_zero a b n (i + 1)
  by_cases hz : vleft a b n (i + 1) = 0
  · have : ¬ (0 : Int) ∈ vpl a b n (i + 1) := fun h => h0.1 h hz
    have h2 : ¬ (2 : Int) ∈ vpl a b n (i + 1) := by
      simp only [vpl, List.mem_map]; rintro ⟨k, _, h⟩; split at h <;> omega
    rw [if_neg this, VT, if_pos hz]
    simp [ansOf, h2, adel, vvs_full hz hV]
  · have : (0 : Int) ∈ vpl a b n (i + 1) := h0.2 hz
    rw [if_pos this, VT, if_neg hz]
    simp [aset]
theorem VT_arg {V : List Int} {a b n i : Nat} (hk : ¬ vk a b i < n) (hl : vleft a b n (i + 1) = vleft a b n i) :
    (VT V a b n i).putC 3 (vk a b i) = (if vleft a b n i = 0 then 3 else 1) ∧ (VT V a b n i).put 3 (vk a b i) 1 (V.getD (vk a b i) 0) = VT V a b n (i + 1) := by
  have hc : (VT V a b n i).putC 3 (vk a b i) = (if vleft a b n i = 0 then 3 else 1) := by
    rw [VT]
    split
    · rename_i h; simp [Tab.putC, afind]
    · rename_i h
      have hf : afind ([((3 : Int), (⟨1, vpl a b n i, vvs V a b n i⟩ : Rq))]) 3 = some ⟨1, vpl a b n i, vvs V a b n i⟩ := by simp [afind]
      rw [Tab.putC]; simp only [hf]
      rw [if_pos (.inr (by simp [vpl]; omega))]
  refine ⟨hc, ?_⟩
  rw [Tab.put, if_neg (by rw [hc]; split <;> decide), v_same hk hl]
theorem VT_kept (V : List Int) (a b n i : Nat) : (VT V a b n i).kept.length < 1000000 := by rw [VT]; split <;> simp
theorem VT_ids (V : List Int) (a b n i : Nat) : (VT V a b n i).ids := by
  rw [VT]; split
  · intro q hq; cases hq
  · intro q hq; simp at hq; subst hq; show (3 : Int) ≤ 9223372036854775807; decide
theorem VT_len16 (V : List Int) (a b n i : Nat) : (VT V a b n i).R.length ≤ 16 := by rw [VT]; split <;> simp
theorem VT_len (V : List Int) (a b n i : Nat) : ((VT V a b n i).R.length : Int) = min (vleft a b n i : Int) 1 := by
  rw [VT]; split
  · rename_i h; rw [h]; rfl
  · simp; omega
theorem VT_touched {V : List Int} {a b n i : Nat} (hk : vk a b i < n) : (VT V a b n (i + 1)).touched 3 = decide (0 < vleft a b n (i + 1)) := by
  rw [VT]
  split
  · rename_i h; simp [Tab.touched, afind, h]
  · rename_i h
    have hf : afind ([((3 : Int), (⟨1, vpl a b n (i + 1), vvs V a b n (i + 1)⟩ : Rq))]) 3 = some ⟨1, vpl a b n (i + 1), vvs V a b n (i + 1)⟩ := by simp [afind]
    simp only [Tab.touched, hf]
    rw [decide_eq_decide]
    refine ⟨fun _ => by omega, fun _ => ⟨1, ?_, by decide⟩⟩
    simp only [vpl, List.mem_map, List.mem_range]
    exact ⟨vk a b i, hk, by simp [vis_succ]⟩
end Go.Proofs.Xw
