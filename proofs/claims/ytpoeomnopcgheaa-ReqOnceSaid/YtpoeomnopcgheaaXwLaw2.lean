import Derived.Test.YtpoeomnopcgheaaXwLaw1
namespace Go.Proofs.Xw
open Go.RowKit Go.Xw

def A0 : Tab := Tab.new 2
def A1 : Tab := A0.open' 5 1 2
def A2 : Tab := A1.open' 6 2 1
def A4 : Tab := A2.put 5 1 1 9
def A5 : Tab := A4.put 5 0 1 7
def A6 : Tab := A5.put 6 0 2 0
def A7 : Tab := A6.take
def akept : List Ans := [⟨5, 0, [7, 9]⟩, ⟨6, 7, []⟩]
theorem a3 : A2.open' 7 1 1 = A2 := by rfl
theorem a6 : A6.kept = akept := by decide
theorem a7 : A7 = ⟨2, [], []⟩ := by rfl
/-- A step of 'awake'. -/
def AW (w0 : World) (p m : Nat) (v : Value) (T : Tab) (e : Ending) (w' : World) : Prop := e = .returned v ∧ ∃ kv, Live w0 w' p m kv T
theorem aw0 {w0 w : World} (hw : Keep (fun _ => False) w0 w) : Calls Try.prog 19 #[.int .i64 2] w fun e w' => ∃ p m, e = .returned (.tuple #[.pointer (some ⟨p, 0, none⟩), .int .i64 0]) ∧ Live w0 w' p m (.slice none 0 0) A0 :=
  (live_new hw 2 (by decide) (by decide)).mono fun _ _ ⟨p, m, h1, h2, _⟩ => ⟨p, m, h1, h2⟩
section
variable {w0 w : World} {p m : Nat} {kv : Value}
theorem aw1 (h : Live w0 w p m kv A0) : Calls Try.prog 32 #[.pointer (some ⟨p, 0, none⟩), .int .i64 5, .int .i64 1, .int .i64 2] w (AW w0 p m (.int .i64 0) A1) :=
  (live_open h 5 1 2).mono fun _ _ ⟨h1, kv', h2, _⟩ => ⟨h1, kv', h2⟩
theorem aw2 (h : Live w0 w p m kv A1) : Calls Try.prog 32 #[.pointer (some ⟨p, 0, none⟩), .int .i64 6, .int .i64 2, .int .i64 1] w (AW w0 p m (.int .i64 0) A2) :=
  (live_open h 6 2 1).mono fun _ _ ⟨h1, kv', h2, _⟩ => ⟨h1, kv', h2⟩
theorem aw3 (h : Live w0 w p m kv A2) : Calls Try.prog 32 #[.pointer (some ⟨p, 0, none⟩), .int .i64 7, .int .i64 1, .int .i64 1] w (AW w0 p m (.int .i64 2) A2) :=
  (live_open h 7 1 1).mono fun _ _ ⟨h1, kv', h2, _⟩ => ⟨h1, kv', a3 ▸ h2⟩
theorem aw4 (h : Live w0 w p m kv A2) : Calls Try.prog 33 #[.pointer (some ⟨p, 0, none⟩), .int .i64 5, .int .i64 1, .int .u64 9] w (AW w0 p m (.int .i64 0) A4) :=
  (live_give h (by decide) 5 1 9).mono fun _ _ ⟨h1, kv', h2, _⟩ => ⟨h1, kv', h2⟩
theorem aw5 (h : Live w0 w p m kv A4) : Calls Try.prog 25 #[.pointer (some ⟨p, 0, none⟩), .int .i64 5] w (AW w0 p m (.bool true) A4) :=
  (live_touched h 5).mono fun _ _ ⟨h1, h2, _⟩ => ⟨h1, kv, h2⟩
theorem aw6 (h : Live w0 w p m kv A4) : Calls Try.prog 25 #[.pointer (some ⟨p, 0, none⟩), .int .i64 6] w (AW w0 p m (.bool false) A4) :=
  (live_touched h 6).mono fun _ _ ⟨h1, h2, _⟩ => ⟨h1, kv, h2⟩
theorem aw7 (h : Live w0 w p m kv A4) : Calls Try.prog 27 #[.pointer (some ⟨p, 0, none⟩), .int .i64 6] w (AW w0 p m (.int .i64 2) A4) :=
  (live_kind h 6).mono fun _ _ ⟨h1, h2⟩ => ⟨h1, kv, h2 ▸ h⟩
theorem aw8 (h : Live w0 w p m kv A4) : Calls Try.prog 27 #[.pointer (some ⟨p, 0, none⟩), .int .i64 7] w (AW w0 p m (.int .i64 0) A4) :=
  (live_kind h 7).mono fun _ _ ⟨h1, h2⟩ => ⟨h1, kv, h2 ▸ h⟩
theorem aw9 (h : Live w0 w p m kv A4) : Calls Try.prog 33 #[.pointer (some ⟨p, 0, none⟩), .int .i64 5, .int .i64 0, .int .u64 7] w (AW w0 p m (.int .i64 0) A5) :=
  (live_give h (by decide) 5 0 7).mono fun _ _ ⟨h1, kv', h2, _⟩ => ⟨h1, kv', h2⟩
theorem aw10 (h : Live w0 w p m kv A5) : Calls Try.prog 34 #[.pointer (some ⟨p, 0, none⟩), .int .i64 6, .int .i64 0] w (AW w0 p m (.int .i64 0) A6) :=
  (live_lose h (by decide) 6 0).mono fun _ _ ⟨h1, kv', h2, _⟩ => ⟨h1, kv', h2⟩
theorem aw11 (h : Live w0 w p m kv A6) : Calls Try.prog 30 #[.pointer (some ⟨p, 0, none⟩)] w fun e w' => ∃ a cap, e = .returned (.slice a 2 cap) ∧ AnsR w' (.slice a 2 cap) akept ∧ Live w0 w' p m (.slice none 0 0) A7 :=
  (live_take h).mono fun _ _ ⟨h1, h2, h3, _⟩ => by
    obtain ⟨vs, q1, q2, q3⟩ := h2
    obtain ⟨a, cap, rfl⟩ := q2.form
    exact ⟨a, cap, h1, ⟨vs, q1, q2, q3⟩, h3⟩
theorem aw12 (h : Live w0 w p m (.slice none 0 0) A7) : Calls Try.prog 30 #[.pointer (some ⟨p, 0, none⟩)] w (AW w0 p m (.slice none 0 0) A7) :=
  (live_take h).mono fun _ _ ⟨h1, _, h3, _⟩ => ⟨h1, _, h3⟩
theorem aw13 (h : Live w0 w p m kv A7) : Calls Try.prog 23 #[.pointer (some ⟨p, 0, none⟩)] w fun e w' => ∃ a cap, e = .returned (.slice a 0 cap) ∧ Live w0 w' p m kv A7 :=
  (live_pending h (by intro q hq; cases hq) (by decide)).mono fun _ _ ⟨a, cap, h1, _, h3, _⟩ => ⟨a, cap, h1, h3⟩
theorem aw14 (h : Live w0 w p m kv A7) : Calls Try.prog 35 #[.pointer (some ⟨p, 0, none⟩), .int .i64 5] w (AW w0 p m (.int .i64 3) A7) :=
  (live_cancel h (by decide) 5).mono fun _ _ ⟨h1, kv', h2, _⟩ => ⟨h1, kv', h2⟩
theorem aw15 (h : Live w0 w p m kv A7) : Calls Try.prog 32 #[.pointer (some ⟨p, 0, none⟩), .int .i64 0, .int .i64 1, .int .i64 1] w (AW w0 p m (.int .i64 1) A7) :=
  (live_open h 0 1 1).mono fun _ _ ⟨h1, kv', h2, _⟩ => ⟨h1, kv', h2⟩
theorem aw16 {a : Option Addr} {cap b : Nat} {W : World} (h : AnsR W (.slice a 2 cap) akept) (h1 : W.heap[b]? = some (.cells #[.int .u64 7, .int .u64 9] 30 (0, 0))) (k : Nat)
    (h2 : W.heap[k]? = some (.cells #[.int .i64 5, .int .i64 0, .slice (some ⟨b, 0, none⟩) 2 2, .int .i64 6, .int .i64 7, .slice none 0 0] 49 (0, 0))) :
    Calls Try.prog 29 #[.slice a 2 cap, .slice (some ⟨k, 0, none⟩) 2 2] W fun e w' => e = .returned (.bool true) ∧ Keep (fun _ => False) W w' := by
  have hR : AnsR W (.slice (some ⟨k, 0, none⟩) 2 2) akept := by
    refine ⟨[.slice (some ⟨b, 0, none⟩) 2 2, .slice none 0 0], rfl, ⟨rfl, .inr ⟨k, 0, 2, rfl, by decide, by decide, lt_of h2, fun j v hv => cell_of h2 (by rw [Nat.zero_add, List.getElem?_toArray]; exact hv)⟩⟩, ?_⟩
    intro i a u ha hu
    match i, ha, hu with
    | 0, ha, hu => cases ha; cases hu; exact ⟨rfl, .inr ⟨b, 0, 2, rfl, by decide, by decide, lt_of h1, fun j v hv => cell_of h1 (by rw [Nat.zero_add, List.getElem?_toArray]; exact hv)⟩⟩
    | 1, ha, hu => cases ha; cases hu; exact ⟨rfl, .inl ⟨rfl, rfl⟩⟩
  refine (answers_any W akept akept _ _ h hR).mono ?_
  rintro e w' ⟨rfl, h⟩
  exact ⟨ret_bool (by simp), h⟩
theorem aw17 {a : Option Addr} {cap : Nat} {w : World} (h : AnsR w (.slice a 2 cap) akept) :
    Calls Try.prog 29 #[.slice a 2 cap, .slice (some ⟨w.heap.size + 1, 0, none⟩) 2 2] ((w.alloc (.cells #[.int .u64 7, .int .u64 9] 30)).alloc (.cells #[.int .i64 5, .int .i64 0, .slice (some ⟨w.heap.size, 0, none⟩) 2 2, .int .i64 6, .int .i64 7, .slice none 0 0] 49))
      fun e w' => e = .returned (.bool true) ∧ Keep (fun _ => False) w w' := by
  have hk := ((Keep.refl (fun _ => False) w).alloc (.cells #[.int .u64 7, .int .u64 9] 30)).alloc (.cells #[.int .i64 5, .int .i64 0, .slice (some ⟨w.heap.size, 0, none⟩) 2 2, .int .i64 6, .int .i64 7, .slice none 0 0] 49)
  refine (aw16 (h.keep0 hk) (b := w.heap.size) ?_ _ ?_).mono fun _ _ ⟨h1, h2⟩ => ⟨h1, hk.seq h2⟩
  · exact block_keep (block_new _ _) ((Keep.refl (fun _ => False) _).alloc _) (fun f => f)
  · have := block_new (w.alloc (.cells #[.int .u64 7, .int .u64 9] 30)) (.cells #[.int .i64 5, .int .i64 0, .slice (some ⟨w.heap.size, 0, none⟩) 2 2, .int .i64 6, .int .i64 7, .slice none 0 0] 49)
    simpa using this
end
end Go.Proofs.Xw
