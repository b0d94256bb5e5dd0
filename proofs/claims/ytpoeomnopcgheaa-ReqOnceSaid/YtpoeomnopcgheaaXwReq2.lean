import Derived.Test.YtpoeomnopcgheaaXwReq1
namespace Go.Proofs.Xw
open Go.RowKit Go.Xw

theorem keyI : KeyOps Try.prog 3 encI := keyOps_int Try.underlying3
def rqM (R : List (Int × Rq)) : List (Int × Value) := R.map fun p => (p.1, encRq p.2)

/-- The cells of answers, their values' slices being 'vs'. -/
def ansCells : List Ans → List Value → List Value
  | a :: l, v :: vs => .int .i64 a.id :: .int .i64 a.code :: v :: ansCells l vs
  | _, _ => []
theorem ansCells_len : ∀ (l : List Ans) (vs : List Value), vs.length = l.length → (ansCells l vs).length = l.length * 3
  | [], [], _ => rfl
  | a :: l, v :: vs, h => by simp [ansCells, ansCells_len l vs (by simpa using h)]; omega
theorem ansCells_app : ∀ (l : List Ans) (vs : List Value) (a : Ans) (v : Value), vs.length = l.length → ansCells (l ++ [a]) (vs ++ [v]) = ansCells l vs ++ [.int .i64 a.id, .int .i64 a.code, v]
  | [], [], _, _, _ => rfl
  | a :: l, u :: vs, b, v, h => by simp [ansCells, ansCells_app l vs b v (by simpa using h)]

/-- Answers that a slice of ours holds: the row is ours, the values can be read, and lie in no row of answers. -/
def AnsOwn (w : World) (kv : Value) (l : List Ans) : Prop :=
  ∃ vs : List Value, vs.length = l.length ∧ w.ownsRow 0 49 3 kv l.length (ansCells l vs) ∧
    ∀ (i : Nat) (a : Ans) (v : Value), l[i]? = some a → vs[i]? = some v → w.ownsRow 0 30 1 v a.vals.length (u64V a.vals)

theorem AnsOwn.keep {w w' : World} {kv : Value} {l : List Ans} (h : AnsOwn w kv l) {F : Nat → Prop} (k : Keep F w w') (hn : ∀ (g : Nat) c E fr, F g → w.heap[g]? = some (.cells c E fr) → E ≠ 49 ∧ E ≠ 30) : AnsOwn w' kv l := by
  obtain ⟨vs, h1, h2, h3⟩ := h
  refine ⟨vs, h1, ownsRow_keep h2 k ?_, fun i a v ha hv => ownsRow_keep (h3 i a v ha hv) k ?_⟩
  · intro g hg hF
    obtain ⟨c, hc⟩ := own_block h2 hg
    exact (hn g _ _ _ hF hc).1 rfl
  · intro g hg hF
    obtain ⟨c, hc⟩ := own_block (h3 i a v ha hv) hg
    exact (hn g _ _ _ hF hc).2 rfl

structure IsTab (w : World) (p m : Nat) (kv : Value) (T : Tab) : Prop where
  tab : w.heap[p]? = some (.cells #[.int .i64 T.room, .map (some m), kv] 123 (0, 0))
  map : MapK encI w m (rqM T.R)
  ans : AnsOwn w kv T.kept

theorem field134_0 (r : Rq) (w : World) : (Instr.field 134 (encRq r) 0).run Try.prog w = .ok (.int .i64 r.kind) w := by kernel_rfl
set_option maxRecDepth 20000 in
theorem kind_any (w : World) (p m : Nat) (kv : Value) (T : Tab) (h : IsTab w p m kv T) (id : Int) :
    Calls Try.prog 27 #[.pointer (some ⟨p, 0, none⟩), .int .i64 id] w fun e w' => e = .returned (.int .i64 (T.kind id)) ∧ w = w' := by
  have c1 := cell_of h.tab (i := 1) rfl
  cases hf : afind T.R id with
  | none =>
    have hg := Lib.hid (show (afind (rqM T.R) id).getD (encRq ⟨0, [], []⟩) = encRq ⟨0, [], []⟩ by rw [rqM, afind_map, hf]; rfl)
    have hk := Lib.hid (show T.kind id = 0 by simp [Tab.kind, hf])
    clear hf
    have hfl := field134_0
    go_enter Try.func27, Try.ntmps27
    go_wp2_with (at_lookup; refine wpList_lookupK_getD _ rfl (.tmp 8) (.tmp 9) 121 rfl keyI Try.underlying121 m _ h.map _ (zero134 _) id _ hg.out rfl rfl ?_)
    go_ret
    exact ⟨ret_int hk.out.symm, rfl⟩
  | some r =>
    have hg := Lib.hid (show (afind (rqM T.R) id).getD (encRq ⟨0, [], []⟩) = encRq r by rw [rqM, afind_map, hf]; rfl)
    have hk := Lib.hid (show T.kind id = r.kind by simp [Tab.kind, hf])
    clear hf
    have hfl := field134_0
    go_enter Try.func27, Try.ntmps27
    go_wp2_with (at_lookup; refine wpList_lookupK_getD _ rfl (.tmp 8) (.tmp 9) 121 rfl keyI Try.underlying121 m _ h.map _ (zero134 _) id _ hg.out rfl rfl ?_)
    go_ret
    exact ⟨ret_int hk.out.symm, rfl⟩
end Go.Proofs.Xw
