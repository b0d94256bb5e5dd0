import Derived.Test.YtpoeomnopcgheaaXwReq9
import Derived.Test.YtpoeomnopcgheaaXwRef2
namespace Go.Proofs.Xw
open Go.RowKit Go.Xw

/-- A table that the call itself has made: all its blocks are new. -/
structure Live (w0 w : World) (p m : Nat) (kv : Value) (T : Tab) : Prop where
  tab : IsTab w p m kv T
  wf : T.wf
  keep : Keep (fun _ => False) w0 w
  hp : w0.heap.size ≤ p
  hm : w0.heap.size ≤ m
  hkv : ∀ g, kv.ownBlock = some g → w0.heap.size ≤ g

def LPost (w0 w : World) (p m : Nat) (kv : Value) (T' : Tab) (w' : World) : Prop :=
  ∃ kv', Live w0 w' p m kv' T' ∧ Keep (fun k => k = p ∨ k = m ∨ kv.ownBlock = some k) w w' ∧ (kv'.ownBlock = kv.ownBlock ∨ ∃ g, kv'.ownBlock = some g ∧ w.heap.size ≤ g)

theorem Live.post {w0 w w' : World} {p m : Nat} {kv : Value} {T T' : Tab} (h : Live w0 w p m kv T) (hp : TabPost w p m kv T' w') (hw : T'.wf) : LPost w0 w p m kv T' w' := by
  obtain ⟨kv', h1, h2, h3⟩ := hp
  refine ⟨kv', ⟨h1, hw, h.keep.trans h2 ?_, h.hp, h.hm, ?_⟩, h2, h3⟩
  · intro k hk hF
    rcases hF with rfl | rfl | hF
    · exact absurd h.hp (by omega)
    · exact absurd h.hm (by omega)
    · exact absurd (h.hkv k hF) (by omega)
  · intro g hg
    rcases h3 with h3 | ⟨g', h3, h4⟩
    · exact h.hkv g (h3 ▸ hg)
    · rw [h3] at hg; cases hg
      exact Nat.le_trans h.keep.size h4
theorem Live.quiet {w0 w w' : World} {p m : Nat} {kv : Value} {T : Tab} (h : Live w0 w p m kv T) (k : Keep (fun _ => False) w w') : Live w0 w' p m kv T :=
  ⟨h.tab.keep0 k, h.wf, h.keep.seq k, h.hp, h.hm, h.hkv⟩

theorem live_open {w0 w : World} {p m : Nat} {kv : Value} {T : Tab} (h : Live w0 w p m kv T) (id kind count : Int) :
    Calls Try.prog 32 #[.pointer (some ⟨p, 0, none⟩), .int .i64 id, .int .i64 kind, .int .i64 count] w fun e w' => e = .returned (.int .i64 (T.openC id kind count)) ∧ LPost w0 w p m kv (T.open' id kind count) w' :=
  (open_any w p m kv T h.tab h.wf id kind count).mono fun _ _ ⟨h1, h2⟩ => ⟨h1, h.post h2 (h.wf.open' _ _ _)⟩
theorem live_give {w0 w : World} {p m : Nat} {kv : Value} {T : Tab} (h : Live w0 w p m kv T) (hk : T.kept.length < 1000000) (id place value : Int) :
    Calls Try.prog 33 #[.pointer (some ⟨p, 0, none⟩), .int .i64 id, .int .i64 place, .int .u64 value] w fun e w' => e = .returned (.int .i64 (T.putC id place)) ∧ LPost w0 w p m kv (T.put id place 1 value) w' :=
  (give_any w p m kv T h.tab h.wf hk id place value).mono fun _ _ ⟨h1, h2⟩ => ⟨h1, h.post h2 (h.wf.put _ _ (.inl rfl) _)⟩
theorem live_lose {w0 w : World} {p m : Nat} {kv : Value} {T : Tab} (h : Live w0 w p m kv T) (hk : T.kept.length < 1000000) (id place : Int) :
    Calls Try.prog 34 #[.pointer (some ⟨p, 0, none⟩), .int .i64 id, .int .i64 place] w fun e w' => e = .returned (.int .i64 (T.putC id place)) ∧ LPost w0 w p m kv (T.put id place 2 0) w' :=
  (lose_any w p m kv T h.tab h.wf hk id place).mono fun _ _ ⟨h1, h2⟩ => ⟨h1, h.post h2 (h.wf.put _ _ (.inr rfl) _)⟩
theorem live_cancel {w0 w : World} {p m : Nat} {kv : Value} {T : Tab} (h : Live w0 w p m kv T) (hk : T.kept.length < 1000000) (id : Int) :
    Calls Try.prog 35 #[.pointer (some ⟨p, 0, none⟩), .int .i64 id] w fun e w' => e = .returned (.int .i64 (T.cancelC id)) ∧ LPost w0 w p m kv (T.cancel id) w' :=
  (cancel_any w p m kv T h.tab h.wf hk id).mono fun _ _ ⟨h1, h2⟩ => ⟨h1, h.post h2 (h.wf.cancel _)⟩
theorem live_take {w0 w : World} {p m : Nat} {kv : Value} {T : Tab} (h : Live w0 w p m kv T) :
    Calls Try.prog 30 #[.pointer (some ⟨p, 0, none⟩)] w fun e w' => e = .returned kv ∧ AnsR w' kv T.kept ∧ Live w0 w' p m (.slice none 0 0) T.take ∧ Keep (fun k => k = p) w w' :=
  (take_any w p m kv T h.tab).mono fun _ _ ⟨h1, h2, h3, h4⟩ => ⟨h1, h3.read, ⟨h2, h.wf.take, h.keep.trans h4 (fun k hk e => absurd h.hp (by subst e; omega)), h.hp, h.hm, fun g hg => by cases hg⟩, h4⟩
theorem live_touched {w0 w : World} {p m : Nat} {kv : Value} {T : Tab} (h : Live w0 w p m kv T) (id : Int) :
    Calls Try.prog 25 #[.pointer (some ⟨p, 0, none⟩), .int .i64 id] w fun e w' => e = .returned (.bool (T.touched id)) ∧ Live w0 w' p m kv T ∧ Keep (fun _ => False) w w' :=
  (touched_any w p m kv T h.tab h.wf id).mono fun _ _ ⟨h1, h2⟩ => ⟨h1, h.quiet h2, h2⟩
theorem live_kind {w0 w : World} {p m : Nat} {kv : Value} {T : Tab} (h : Live w0 w p m kv T) (id : Int) :
    Calls Try.prog 27 #[.pointer (some ⟨p, 0, none⟩), .int .i64 id] w fun e w' => e = .returned (.int .i64 (T.kind id)) ∧ w = w' := kind_any w p m kv T h.tab id
theorem live_pending {w0 w : World} {p m : Nat} {kv : Value} {T : Tab} (h : Live w0 w p m kv T) (hi : T.ids) (hl : T.R.length ≤ 16) :
    Calls Try.prog 23 #[.pointer (some ⟨p, 0, none⟩)] w fun e w' => ∃ a cap, e = .returned (.slice a T.R.length cap) ∧ SlR w' 1 (.slice a T.R.length cap) T.pending.length (intsV T.pending) ∧ Live w0 w' p m kv T ∧ Keep (fun _ => False) w w' :=
  (pending_any w p m kv T h.tab h.wf hi hl).mono fun _ _ ⟨v, h1, h2, h3⟩ => by
    have hr := SlR.of_owns h2
    obtain ⟨a, cap, rfl⟩ := hr.form
    have hpl : T.pending.length = T.R.length := by simp [Tab.pending]
    rw [hpl] at hr
    exact ⟨a, cap, by rw [h1, hpl], by rw [hpl]; exact hr, h.quiet h3, h3⟩
theorem live_new {w0 w : World} (hw : Keep (fun _ => False) w0 w) (room : Int) (h1 : 1 ≤ room) (h2 : room ≤ 16) :
    Calls Try.prog 19 #[.int .i64 room] w fun e w' => ∃ p m, e = .returned (.tuple #[.pointer (some ⟨p, 0, none⟩), .int .i64 0]) ∧ Live w0 w' p m (.slice none 0 0) (Tab.new room) ∧ Keep (fun _ => False) w w' ∧ w.heap.size ≤ p ∧ w.heap.size ≤ m :=
  (new_ok w room h1 h2).mono fun _ _ ⟨p, m, h3, h4, h5, h6, h7⟩ => ⟨p, m, h3, ⟨h4, Tab.new_wf _ (by omega), hw.seq h5, Nat.le_trans hw.size h6, Nat.le_trans hw.size h7, fun g hg => by cases hg⟩, h5, h6, h7⟩
end Go.Proofs.Xw
