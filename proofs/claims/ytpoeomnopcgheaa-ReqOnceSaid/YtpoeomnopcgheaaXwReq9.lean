import Derived.Test.YtpoeomnopcgheaaXwReq8
import Derived.Test.YtpoeomnopcgheaaXwKeys
import Derived.Shelf.SlIterI.Nil
import Derived.Shelf.SortM.Plain
import Derived.Shelf.SortM.SortNone
namespace Go.Proofs.Xw
open Go.RowKit Go.Xw Go.Maps Go.Sort Go.Shelf Go.Proofs

def trivR : Value → Option (DataW Unit × List MemPlace) := fun _ => some (.lit (.bool true), [])

theorem MapK_owns {w : World} {b : Nat} {M : List (Int × Value)} (h : MapK encI w b M) (hw : ∀ p ∈ M, (Lit.int .i64 p.1).wf = true) (hl : M.length ≤ maxLen) :
    ∃ D : DataW Unit, w.ownsMap Try.prog 3 trivR b M.length D ∧ Maps.size D = M.length ∧ (intKeys D).Perm (M.map (·.1)) := by
  obtain ⟨es, clock, hb, hS, he⟩ := h
  have hlen : es.size = M.length := by simpa using congrArg List.length he
  have hkey : ∀ x ∈ es.toList, ∃ k, x.key = .int .i64 k ∧ (Lit.int .i64 k).wf = true := by
    intro x hx
    have : (x.key, x.val) ∈ M.map (fun p => (encI p.1, p.2)) := by rw [← he]; exact List.mem_map.2 ⟨x, hx, rfl⟩
    obtain ⟨p, hp, e⟩ := List.mem_map.1 this
    injection e with e1 e2
    exact ⟨p.1, e1.symm, hw p hp⟩
  have hrd : ∀ x ∈ es.toList, ∀ k, x.key = .int .i64 k → (Lit.int .i64 k).wf = true → WideElems.rd (H := Unit) Try.prog 3 trivR x = some (.int .i64 k, .lit (.bool true)) := by
    intro x hx k hk hwf
    simp [WideElems.rd, hk, keyOf_int_mk Try.underlying3 hwf, trivR]
  refine ⟨_, ⟨es, clock, hb, ⟨by omega, hS, fun x hx => ?_⟩, by omega, rfl⟩, ?_, ?_⟩
  · obtain ⟨k, hk, hwf⟩ := hkey x hx
    exact ⟨_, hrd x hx k hk hwf⟩
  · rw [Maps.size_eq, Go.length_sorted, List.length_map]; simpa using hlen
  · simp only [intKeys]
    refine ((WideShapes.sorted_perm _).map _).trans ?_
    have : (es.toList.map (WideElems.rg (H := Unit) Try.prog 3 trivR)).map (fun p => Go.intOf p.1) = M.map (·.1) := by
      have e2 : M.map (·.1) = (M.map (fun p => (encI p.1, p.2))).map (fun q => match q.1 with | .int _ k => k | _ => 0) := by
        rw [List.map_map]; rfl
      rw [e2, ← he, List.map_map, List.map_map]
      apply List.map_congr_left
      intro x hx
      obtain ⟨k, hk, hwf⟩ := hkey x hx
      simp [WideElems.rg, hrd x hx k hk hwf, hk, Go.intOf]
    exact this ▸ List.Perm.refl _

theorem sort_unique {l l' : List Int} (h : l.Perm l') : l.mergeSort (fun x y => decide (x ≤ y)) = l'.mergeSort (fun x y => decide (x ≤ y)) := by
  have s1 := List.pairwise_mergeSort (le := fun x y : Int => decide (x ≤ y)) (fun a b c => by simp; omega) (fun a b => by simp; omega) l
  have s2 := List.pairwise_mergeSort (le := fun x y : Int => decide (x ≤ y)) (fun a b c => by simp; omega) (fun a b => by simp; omega) l'
  refine List.Perm.eq_of_pairwise (le := fun x y => decide (x ≤ y) = true) ?_ s1 s2 (((List.mergeSort_perm _ _).trans h).trans (List.mergeSort_perm _ _).symm)
  intro a b _ _ h1 h2
  simp at h1 h2; omega

def Tab.ids (T : Tab) : Prop := ∀ p ∈ T.R, p.1 ≤ 9223372036854775807

theorem sorts69 (m : Nat) : AnyZI.SortsIn Try.prog Try.sorted69_ren Fence.wide m :=
  ⟨fun blk off cap ss W hH hblk hsz => callsIn_wide.2 (AnyM.slices_Sort_int Try.sort97 blk off cap ss W hH hblk hsz),
   fun p cap W => callsIn_wide.2 (AnyM.slices_Sort_int_none Try.sort97 p cap W)⟩

set_option maxHeartbeats 1000000 in
theorem pending_any (w : World) (p m : Nat) (kv : Value) (T : Tab) (h : IsTab w p m kv T) (hw : T.wf) (hi : T.ids) (hl : T.R.length ≤ 16) :
    Calls Try.prog 23 #[.pointer (some ⟨p, 0, none⟩)] w fun e w' => ∃ v, e = .returned v ∧ w'.ownsRow w.heap.size 3 1 v T.pending.length (intsV T.pending) ∧ Keep (fun _ => False) w w' := by
  refine (callsIn_wide (n := 6)).1 ?_
  have c1 := cell_of h.tab (i := 1) rfl
  obtain ⟨D0, hown, hsz, hkeys⟩ := MapK_owns h.map (by
    intro q hq
    obtain ⟨u, hu, rfl⟩ := List.mem_map.1 hq
    have h1 := hw.pos u hu
    have h2 := hi u hu
    have e1 : IntKind.i64.min = -9223372036854775808 := by decide
    have e2 : IntKind.i64.max = 9223372036854775807 := by decide
    simp only [Lit.wf, e1, e2, Bool.and_eq_true, decide_eq_true_eq]; exact ⟨by omega, h2⟩) (Nat.le_trans (show (rqM T.R).length ≤ 16 by simpa [rqM] using hl) (by decide))
  have hz1 : Maps.size D0 ≤ maxLen := by rw [hsz]; exact Nat.le_trans (show (rqM T.R).length ≤ 16 by simpa [rqM] using hl) (by decide)
  have hz2 : Maps.size D0 * 8 ≤ 140737488355328 := by
    have : (rqM T.R).length ≤ 16 := by simpa [rqM] using hl
    omega
  have hseq : SeqGives Fence.wide 2 Try.prog 101 #[.pointer (some ⟨w.heap.size, 0, none⟩)] encZ (fun ss => ss.Perm (intKeys D0)) (Maps.size D0) (w.alloc (.cells #[.map (some m)] 121)) :=
    AnyZI.keys_gives (ρ := Try.keys70_ren) { Try.keys70 with } Fence.wide _ trivial rfl (by omega) w.heap.size m _ D0 _ (by simp) (by simp) (by
      have hbl := hown.lt
      obtain ⟨es, clock, hb, Ft, hs, hD⟩ := hown
      exact ⟨es, clock, (Below.heap_alloc _ _ m hbl).trans hb, Ft, hs, hD⟩)
  have cK : ∀ mb W, CallsIn Fence.wide 5 Try.prog 70 #[.map mb] W fun e w' => e = .returned (.func (.func 101) #[] #[.pointer (some ⟨W.heap.size, 0, none⟩)]) ∧ w' = W.alloc (.cells #[.map mb] 121) := fun mb W => AnyZI.keys_in Try.keys70 Fence.wide 5 trivial rfl mb W
  have cS := AnyZI.sorted_in Try.sorted69 Fence.wide 5 trivial trivial trivial trivial rfl (by omega) (sorts69 _) (enters_of Try.func97 (by kernel_rfl) rfl) 101 #[.pointer (some ⟨w.heap.size, 0, none⟩)] trivial (enters_of Try.func101 (by kernel_rfl) rfl) _ _ hz1 hz2 _ hseq
  change CallsIn _ _ Try.prog 69 _ _ _ at cS
  have hfK : Fence.wide.fn 70 := trivial
  have hfS : Fence.wide.fn 69 := trivial
  refine callsIn_of_wp Try.func23 rfl trivial ?_ rfl
  simp only [Try.ntmps23, List.size_toArray, List.length_cons, List.length_nil, Nat.reduceAdd, Nat.reduceSub, Array.replicate_succ, Array.replicate_zero, List.push_toArray, List.append_toArray, List.nil_append, List.cons_append]
  gi_wp2_with (first
    | (gi_at_call 70; refine (cK _ _).mono ?_; rintro e w' ⟨rfl, rfl⟩)
    | (gi_at_call 69; refine cS.mono ?_; rintro e w' ⟨v, ss, rfl, hS, hrow, hnil, hb⟩))
  go_ret
  have hp : ss.mergeSort (fun x y => decide (x ≤ y)) = T.pending := sort_unique (hS.trans (hkeys.trans (by rw [rqM, List.map_map]; exact .refl _)))
  have hlen : T.pending.length = ss.length := by rw [← hp]; simp
  rw [hp] at hrow
  refine ⟨v, rfl, ?_, ((Keep.refl _ w).alloc _).seq (Keep.of_below' _ (hb.mono (by simp)))⟩
  rw [hlen]
  exact ownsRow_base_a hrow (by simp)
end Go.Proofs.Xw
