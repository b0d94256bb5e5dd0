import Derived.Test.YtpoeomnopcgheaaProg
import Derived.Test.YtpoeomnopcgheaaXwApp
import Derived.WalkLawsBesides
import Derived.Lib.Hide
import Derived.Deep.QuietTactic
import Derived.BigQuiet
namespace Go.Proofs.Xw
open Go.RowKit Go.Xw

theorem ret_int {k : IntKind} {a b : Int} (h : a = b) : Ending.returned (.int k a) = Ending.returned (.int k b) := by rw [h]
theorem ret_bool {a b : Bool} (h : a = b) : Ending.returned (.bool a) = Ending.returned (.bool b) := by rw [h]
theorem ret_val {a b : Value} (h : a = b) : Ending.returned a = Ending.returned b := by rw [h]
def intsV (l : List Int) : List Value := l.map (Value.int .i64)
def u64V (l : List Int) : List Value := l.map (Value.int .u64)
theorem intsV_len (l : List Int) : (intsV l).length = l.length := by simp [intsV]
theorem u64V_len (l : List Int) : (u64V l).length = l.length := by simp [u64V]
theorem intsV_one (l : List Int) : ∀ v ∈ intsV l, v.oneCell' = true := by intro v hv; simp [intsV] at hv; obtain ⟨a, _, rfl⟩ := hv; rfl
theorem u64V_one (l : List Int) : ∀ v ∈ u64V l, v.oneCell' = true := by intro v hv; simp [u64V] at hv; obtain ⟨a, _, rfl⟩ := hv; rfl

/-- Where a number first stands in a list; -1: nowhere. -/
def idxI : List Int → Int → Int
  | [], _ => -1
  | x :: l, v => if x = v then 0 else let r := idxI l v; if r < 0 then -1 else r + 1
theorem idxI_none {l : List Int} {v : Int} (h : ∀ x ∈ l, x ≠ v) : idxI l v = -1 := by
  induction l with
  | nil => rfl
  | cons x l ih =>
    rw [idxI, if_neg (h x (by simp)), ih (fun y hy => h y (by simp [hy]))]; rfl
theorem idxI_at {l : List Int} {v : Int} {k : Nat} (hk : l[k]? = some v) (h : ∀ j, j < k → l[j]? ≠ some v) : idxI l v = k := by
  induction l generalizing k with
  | nil => simp at hk
  | cons x l ih =>
    cases k with
    | zero => simp at hk; simp [idxI, hk]
    | succ k =>
      have hx : x ≠ v := fun e => h 0 (by omega) (by simp [e])
      have := ih (k := k) (by simpa using hk) (fun j hj => by have := h (j + 1) (by omega); simpa using this)
      rw [idxI, if_neg hx, this]
      simp; omega
theorem idxI_range (l : List Int) (v : Int) : -1 ≤ idxI l v ∧ idxI l v < l.length := by
  induction l with
  | nil => simp [idxI]
  | cons x l ih =>
    rw [idxI]
    simp only [List.length_cons]
    split
    · omega
    · split <;> omega
theorem idxI_mem {l : List Int} {v : Int} : 0 ≤ idxI l v ↔ v ∈ l := by
  induction l with
  | nil => simp [idxI]
  | cons x l ih =>
    rw [idxI]
    by_cases e : x = v
    · simp [e]
    · rw [if_neg e]
      simp only [List.mem_cons]
      constructor
      · intro h
        right; apply ih.1
        split at h <;> omega
      · intro h
        rcases h with h | h
        · exact absurd h.symm e
        · have := ih.2 h
          rw [if_neg (by omega)]; omega

set_option maxHeartbeats 400000 in
theorem index_any (b off cap : Nat) (zs : List Int) (v : Int) (w : World) (hr : w.rangeAt b off (intsV zs)) (hm : zs.length ≤ 9223372036854775807) :
    Calls Try.prog 102 #[.slice (some ⟨b, off, none⟩) zs.length cap, .int .i64 v] w fun e w' => e = .returned (.int .i64 (idxI zs v)) ∧ w = w' := by
  go_enter Try.func102, Try.ntmps102
  go_wp2
  go_loop [4, 5, 8] (fun _ _ i => ∃ k : Nat, k ≤ zs.length ∧ i = .int .i64 k ∧ Hid (∀ j, j < k → zs[j]? ≠ some v)) (fun _ _ i => zs.length - (intOf i).toNat)
  case atStart => exact ⟨0, by omega, rfl, Lib.hid (fun j hj => by omega)⟩
  case round =>
    obtain ⟨k, hk, rfl, hn⟩ := hrel
    by_cases hlt : k < zs.length
    · have hc : w.cell? ⟨b, off + k, none⟩ = some (.int .i64 zs[k]) := hr k _ (by simp [intsV, hlt])
      by_cases he : v = zs[k]
      · have heb : (v == zs[k]) = true := by simp [he]
        have HE := Lib.hid he; clear he
        have hres := Lib.hid (idxI_at (l := zs) (v := v) (k := k) (by rw [HE.out]; simp) hn.out)
        go_wp2
        go_ret
        exact ⟨ret_int hres.out.symm, rfl⟩
      · have heb : (v == zs[k]) = false := by simp [he]
        go_wp2
        go_round
        case rel => exact ⟨k + 1, by omega, by go_num, Lib.hid (fun j hj => by
          by_cases e : j = k
          · subst e; rw [List.getElem?_eq_getElem hlt]; exact fun h => he (Option.some.inj h).symm
          · exact hn.out j (by omega))⟩
        case measure => simp [intOf]; omega
    · have hres := Lib.hid (idxI_none (l := zs) (v := v) (fun x hx e => by
        obtain ⟨j, hj⟩ := List.getElem?_of_mem hx
        exact hn.out j (by have := (List.getElem?_eq_some_iff.1 hj).1; omega) (by rw [hj, e])))
      go_wp2
      go_ret
      exact ⟨ret_int hres.out.symm, rfl⟩

theorem contains_any (b off cap : Nat) (zs : List Int) (v : Int) (w : World) (hr : w.rangeAt b off (intsV zs)) (hm : zs.length ≤ 9223372036854775807) :
    Calls Try.prog 130 #[.slice (some ⟨b, off, none⟩) zs.length cap, .int .i64 v] w fun e w' => e = .returned (.bool (decide (v ∈ zs))) ∧ w = w' := by
  have hd := Lib.hid (idxI_mem (l := zs) (v := v))
  go_enter Try.func130, Try.ntmps130
  go_wp2_with (go_at_call 102; refine (index_any b off cap zs v _ hr hm).mono ?_; rintro e w' ⟨rfl, rfl⟩)
  go_ret
  exact ⟨ret_bool (decide_eq_decide.2 hd.out), rfl⟩

theorem info30 : (Try.prog.info? 30).map (fun i => (i.zero, i.size, i.bytes)) = some (some (.int .u64 0), 1, 8) := by kernel_rfl

set_option maxRecDepth 20000 in
theorem clone_u64 (w : World) (b off cap n : Nat) (xs : List Int) (h : SlR w 1 (.slice (some ⟨b, off, none⟩) n cap) n (u64V xs)) (hn : n ≤ 1000000) :
    Calls Try.prog 131 #[.slice (some ⟨b, off, none⟩) n cap] w fun e w' => ∃ a c, e = .returned (.slice a n c) ∧ w'.ownsRow 0 30 1 (.slice a n c) n (u64V xs) ∧ Keep (fun _ => False) w w' ∧ (∀ g, (Value.slice a n c).ownBlock = some g → w.heap.size ≤ g) := by
  have hnil := fun w => Lib.run_eql_slice_nil (P := Try.prog) w 47 30 (some ⟨b, off, none⟩) n cap 0 0 Try.underlying47
  have h0 : (w.alloc (.cells #[] 30)).ownsRow 0 30 1 (.slice (some ⟨w.heap.size, 0, none⟩) 0 0) 0 [] := World.ownsRow_lit w #[] 0 (Nat.zero_le _) (Nat.zero_le _) rfl
  have hk : Keep (fun _ => False) w (w.alloc (.cells #[] 30)) := (Keep.refl _ _).alloc _
  have h1 := h.keep hk (fun _ _ f => f)
  go_enter Try.func131, Try.ntmps131
  go_wp2_with (at_builtin; refine wpList_appendX _ rfl (.tmp 5) (.tmp 6) 47 rfl Try.underlying47 info30 rfl (by decide) (.slice (some ⟨w.heap.size, 0, none⟩) 0 0) 0 [] rfl h0 _ n (u64V xs) rfl h1 (u64V_one xs) (by unfold maxLen; omega) (by omega) ?_; intro a' c' w' ho hk' hl)
  go_ret
  simp only [Nat.zero_add, List.nil_append] at ho hl
  refine ⟨a', c', rfl, ho, hk.trans (hk'.mono (G := fun k => w.heap.size ≤ k) fun k _ e => by cases e; exact Nat.le_refl _) (fun k hk e => by omega), fun g hg => ?_⟩
  rcases hl with hl | ⟨g', hg', hle⟩
  · rw [hg] at hl; cases hl; exact Nat.le_refl _
  · rw [hg] at hg'; cases hg'; simp at hle; omega
end Go.Proofs.Xw
