import Derived.Test.YtpoeomnopcgheaaXwOrder
namespace Go.Proofs.Xw
open Go.RowKit Go.Xw

/-- A slice that came in: its cells, as far as its capacity goes. -/
def InS {α : Type} (w : World) (enc : α → Value) (a : Option Addr) (n cap : Nat) (zs : List α) : Prop :=
  n ≤ maxLen ∧ ∀ k, k < n → ∃ x z, a = some x ∧ n ≤ cap ∧ zs[k]? = some z ∧ w.cell? (x.add k) = some (enc z)
theorem lt_of_cell {w : World} {a : Addr} {v : Value} (h : w.cell? a = some v) : a.block < w.heap.size := by
  cases hb : w.heap[a.block]? with
  | none => simp [World.cell?, hb] at h
  | some o => exact (Array.getElem?_eq_some_iff.1 hb).1

def ORel (w : World) (p m : Nat) (wv i : Value) (wr : World) : Prop :=
  ∃ (k : Nat) (T : Tab) (kv : Value) (l : List Ans), k ≤ 100 ∧ i = .int .i64 k ∧ Live w wr p m kv T ∧ OInv T l ∧ WOwn wr wv l ∧ (∀ g, wv.ownBlock = some g → w.heap.size ≤ g ∧ kv.ownBlock ≠ some g)

theorem Live.beside {w0 w w' : World} {p m : Nat} {kv : Value} {T : Tab} (h : Live w0 w p m kv T) {F : Nat → Prop} (k : Keep F w w') (hF : ∀ g, F g → kv.ownBlock ≠ some g ∧ w0.heap.size ≤ g ∧ ∃ c fr, w.heap[g]? = some (.cells c 49 fr)) : Live w0 w' p m kv T := by
  have h1 : ¬ F p := fun e => by obtain ⟨_, _, c, fr, hc⟩ := hF p e; rw [h.tab.tab] at hc; cases hc
  have h2 : ¬ F m := fun e => by obtain ⟨_, _, c, fr, hc⟩ := hF m e; exact h.tab.map.ne_block hc rfl
  obtain ⟨vs, q1, q2, q3⟩ := h.tab.ans
  refine ⟨⟨block_keep h.tab.tab k h1, h.tab.map.keep k h2, ⟨vs, q1, ownsRow_keep q2 k ?_, fun i a v ha hv => ownsRow_keep (q3 i a v ha hv) k ?_⟩⟩, h.wf, h.keep.trans k ?_, h.hp, h.hm, h.hkv⟩
  · intro g hg hFg; exact (hF g hFg).1 hg
  · intro g hg hFg
    obtain ⟨_, _, c, fr, hc⟩ := hF g hFg
    obtain ⟨c', hc'⟩ := own_block (q3 i a v ha hv) hg
    rw [hc] at hc'; cases hc'
  · intro g hg hFg; exact absurd (hF g hFg).2.1 (by omega)

theorem order_mid {w wr w3 : World} {p m : Nat} {kv wv : Value} {T : Tab} {l : List Ans} (hL : Live w wr p m kv T) (hW : WOwn wr wv l) (hd : ∀ g, wv.ownBlock = some g → w.heap.size ≤ g ∧ kv.ownBlock ≠ some g)
    (hk3 : Keep (fun k => k = p ∨ k = m ∨ kv.ownBlock = some k) wr w3) : WOwn w3 wv l := by
  refine hW.keep hk3 ?_
  rintro g hg (rfl | rfl | e)
  · exact own_ne_block hW.1 hL.tab.tab (by decide) hg
  · exact hL.tab.map.ne_own hW.1 hg
  · exact (hd g hg).2 e

theorem order_end {w wr w3 w4 : World} {p m : Nat} {kv kv' wv wv' : Value} {T T' : Tab} {l : List Ans} {a : Ans} {o : Obj} {k : Nat} (hL : Live w wr p m kv T) (hW : WOwn wr wv l) (hd : ∀ g, wv.ownBlock = some g → w.heap.size ≤ g ∧ kv.ownBlock ≠ some g)
    (hk3 : Keep (fun k => k = p ∨ k = m ∨ kv.ownBlock = some k) wr w3) (hL' : Live w w3 p m kv' T') (hloc : kv'.ownBlock = kv.ownBlock ∨ ∃ g, kv'.ownBlock = some g ∧ wr.heap.size ≤ g) (hO' : OInv T' (l ++ [a])) (ha : a.vals = [])
    (hown : w4.ownsRow 0 49 3 wv' (l.length + 1) (ansCells l (List.replicate l.length (.slice none 0 0)) ++ [.int .i64 a.id, .int .i64 a.code, .slice none 0 0])) (hk4 : Keep (fun k => wv.ownBlock = some k) (w3.alloc o) w4)
    (hl4 : wv'.ownBlock = wv.ownBlock ∨ ∃ g, wv'.ownBlock = some g ∧ (w3.alloc o).heap.size ≤ g) (hk : k < 100) : ORel w p m wv' (.int .i64 ((k : Int) + 1)) w4 := by
  have hW3 := order_mid hL hW hd hk3
  have hne : ∀ g, wv.ownBlock = some g → kv'.ownBlock ≠ some g := by
    intro g hg e
    rcases hloc with h | ⟨g', h1, h2⟩
    · exact (hd g hg).2 (h ▸ e)
    · rw [h1] at e; cases e
      have := own_lt hW.1 hg; omega
  have hL3 : Live w (w3.alloc o) p m kv' T' := hL'.quiet ((Keep.refl _ _).alloc _)
  refine ⟨k + 1, T', kv', l ++ [a], by omega, by simp, hL3.beside hk4 ?_, hO', WOwn.push hown hW.2 ha, ?_⟩
  · intro g hg
    obtain ⟨c, hc⟩ := own_block hW3.1 hg
    exact ⟨hne g hg, (hd g hg).1, c, _, block_old hc _⟩
  · intro g hg
    rcases hl4 with h | ⟨g', h1, h2⟩
    · rw [h] at hg; exact ⟨(hd g hg).1, hne g hg⟩
    · rw [h1] at hg; cases hg
      have h5 := hL3.keep.size
      refine ⟨by omega, fun e => ?_⟩
      obtain ⟨vs, q1, q2, q3⟩ := hL3.tab.ans
      have := own_lt q2 e; omega

set_option maxRecDepth 20000 in
set_option maxHeartbeats 1000000 in
theorem order_walk (w : World) (a : Option Addr) (n ca : Nat) (zs : List Int) (b : Option Addr) (nb cb : Nat) (bs : List Bool) (ha : InS w (.int .u8) a n ca zs) (hz : ∀ z ∈ zs, 0 ≤ z ∧ z ≤ 255) (hb : InS w .bool b nb cb bs) :
    Calls Try.prog 6 #[.slice a n ca, .slice b nb cb] w fun e w' => e = .returned (.bool true) ∧ Keep (fun _ => False) w w' := by
  have hn63 : n ≤ 9223372036854775807 := Nat.le_trans ha.1 (by decide)
  have hb63 : nb ≤ 9223372036854775807 := Nat.le_trans hb.1 (by decide)
  have HA := Lib.hid (And.intro ha.2 (And.intro hb.2 hz)); clear ha hb hz
  go_enter Try.func6, Try.ntmps6
  go_wp2_with (first
    | (go_at_call 18; refine (awake_any w w (Keep.refl _ _)).mono ?_; rintro e w1 ⟨rfl, hk1⟩)
    | (go_at_call 19; refine (live_new (w0 := w) hk1 16 (by decide) (by decide)).mono ?_; rintro e w2 ⟨p, m, rfl, h0, -, -, -⟩))
  go_loopw [4, 7] (fun _ i wr => ∃ (k : Nat) (kv : Value), k ≤ 16 ∧ i = .int .i64 ((k : Int) + 1) ∧ Live w wr p m kv (TT k)) (fun _ i _ => 20 - (intOf i).toNat)
  case atStart => exact ⟨0, _, by omega, rfl, h0⟩
  case round =>
    obtain ⟨k, kv, hk, rfl, hL⟩ := hrel
    by_cases hlt : (k : Int) + 1 ≤ 16
    · have ho := TT_open (n := k) (by omega)
      have HO := Lib.hid ho; clear ho
      go_wp2_with (go_at_call 32; refine (live_open hL _ 2 1).mono ?_; rintro e w3 ⟨rfl, kv', hL', -⟩; rw [HO.out.1]; rw [HO.out.2] at hL')
      go_roundw
      case rel => exact ⟨k + 1, kv', by omega, by go_num, hL'⟩
      case measure => simp [intOf]; omega
    · have hk16 : k = 16 := by omega
      subst hk16
      have H16 := Lib.hid hL; clear hL
      go_wp2
      go_loopw [8, 9] (fun wv i wr => ORel w p m wv i wr) (fun _ i _ => 200 - (intOf i).toNat)
      case atStart => exact ⟨0, _, kv, [], by omega, rfl, H16.out, OInv.start, WOwn.nil _, fun g hg => by cases hg⟩
      case round =>
        obtain ⟨k, T, kv, l, hk, rfl, hL, hO, hW, hd⟩ := hrel
        obtain ⟨pa, pc, rfl⟩ := owns_form hW.1
        by_cases hlt : k < n ∧ k < 100
        · obtain ⟨hlt, h100⟩ := hlt
          obtain ⟨x, z, rfl, hcap, hzk, hc⟩ := HA.out.1 k hlt
          have c := (hL.keep.cell (lt_of_cell hc) (fun f => f)).trans hc
          have hz := HA.out.2.2 z (List.mem_of_getElem? hzk)
          clear hzk hc
          have hl1 : (k : Int) < n := by omega
          cases hf : afind T.R (1 + z % 16) with
          | none =>
            have HK := Lib.hid (OInv.kind_none hf); clear hf
            go_wp2_with (go_at_call 27; refine (live_kind hL _).mono ?_; rintro e w' ⟨rfl, rfl⟩; rw [HK.out])
            go_roundw
            case rel => exact ⟨k + 1, T, kv, l, by omega, by go_num, hL, hO, hW, hd⟩
            case measure => simp [intOf]; omega
          | some r =>
            have HK := Lib.hid (hO.kind_some hf)
            have HS1 := Lib.hid (hO.step hf (what := 1) (.inl rfl) 5)
            have HS2 := Lib.hid (hO.step hf (what := 2) (.inr rfl) 0)
            have hkept : T.kept.length < 1000000 := by rw [hO.kept]; have := hO.len; omega
            have Hm1 := Lib.hid (show l.length + 1 ≤ maxLen from Nat.le_trans (show l.length + 1 ≤ 17 by have := hO.len; omega) (by decide))
            have Hm2 := Lib.hid (show (l.length + 1) * 40 ≤ 140737488355328 by have := hO.len; omega)
            have HNB := Lib.hid (show ¬ (wr.heap.size = p ∨ wr.heap.size = m ∨ kv.ownBlock = some wr.heap.size) by
              rintro (e | e | e)
              · have := lt_of hL.tab.tab; omega
              · have := hL.tab.map.lt; omega
              · obtain ⟨vs, q1, q2, q3⟩ := hL.tab.ans; have := own_lt q2 e; omega)
            clear hf
            by_cases hb : k < nb
            · obtain ⟨y, bv, rfl, hcb, hbk, hcy⟩ := HA.out.2.1 k hb
              have d := (hL.keep.cell (lt_of_cell hcy) (fun f => f)).trans hcy
              have hyl := lt_of_cell d
              clear hbk hcy
              have hb1 : (k : Int) < nb := by omega
              cases bv
              · have hX := ((Keep.refl (fun _ => False) wr).alloc (.cells #[.int .i64 (1 + z % 16), .int .i64 0, .slice none 0 0] 49))
                have hXB := block_new wr (.cells #[.int .i64 (1 + z % 16), .int .i64 0, .slice none 0 0] 49)
                go_wp2_with (first | (go_at_call 27; refine (live_kind hL _).mono ?_; rintro e w' ⟨rfl, rfl⟩; rw [HK.out]) | (go_at_call 33; refine (live_give (hL.quiet hX) hkept _ 0 5).mono ?_; rintro e w3 ⟨rfl, kv', hL', hk3, hloc⟩; have hB3 := block_keep hXB hk3 HNB.out; have b0 := cell_of hB3 (i := 0) rfl; have b1 := cell_of hB3 (i := 1) rfl; have b2 := cell_of hB3 (i := 2) rfl; have hk3' := (hX.mono (fun _ _ f => f.elim)).seq hk3; have hW3 := order_mid hL hW hd hk3') | (refine wpList_appendX _ rfl (.tmp 68) (.tmp 70) 40 rfl Try.underlying40 info49 rfl (by decide) _ _ _ rfl (ownsRow_keep hW3.1 ((Keep.refl (fun _ => False) w3).alloc _) (fun _ _ f => f)) _ 1 [.int .i64 (1 + z % 16), .int .i64 0, .slice none 0 0] rfl ⟨rfl, .inr ⟨_, 0, 1, rfl, by decide, by decide, by simp, fun j v hv => cell_of (block_new _ _) (by rw [Nat.zero_add, List.getElem?_toArray]; exact hv)⟩⟩ (by intro u hu; simp at hu; rcases hu with rfl | rfl | rfl <;> rfl) Hm1.out Hm2.out ?_; intro a' cap' w4 hown hk4 hl4))
                go_roundw
                case rel => exact order_end hL hW hd hk3' hL' (hloc.imp id fun ⟨g, e1, e2⟩ => ⟨g, e1, Nat.le_trans hX.size e2⟩) HS1.out rfl (by simpa using hown) hk4 hl4 h100
                case measure => simp [intOf]; omega
              · have hX := ((Keep.refl (fun _ => False) wr).alloc (.cells #[.int .i64 (1 + z % 16), .int .i64 7, .slice none 0 0] 49))
                have hXB := block_new wr (.cells #[.int .i64 (1 + z % 16), .int .i64 7, .slice none 0 0] 49)
                go_wp2_with (first | (go_at_call 27; refine (live_kind hL _).mono ?_; rintro e w' ⟨rfl, rfl⟩; rw [HK.out]) | (go_at_call 34; refine (live_lose (hL.quiet hX) hkept _ 0).mono ?_; rintro e w3 ⟨rfl, kv', hL', hk3, hloc⟩; have hB3 := block_keep hXB hk3 HNB.out; have b0 := cell_of hB3 (i := 0) rfl; have b1 := cell_of hB3 (i := 1) rfl; have b2 := cell_of hB3 (i := 2) rfl; have hk3' := (hX.mono (fun _ _ f => f.elim)).seq hk3; have hW3 := order_mid hL hW hd hk3') | (refine wpList_appendX _ rfl (.tmp 68) (.tmp 70) 40 rfl Try.underlying40 info49 rfl (by decide) _ _ _ rfl (ownsRow_keep hW3.1 ((Keep.refl (fun _ => False) w3).alloc _) (fun _ _ f => f)) _ 1 [.int .i64 (1 + z % 16), .int .i64 7, .slice none 0 0] rfl ⟨rfl, .inr ⟨_, 0, 1, rfl, by decide, by decide, by simp, fun j v hv => cell_of (block_new _ _) (by rw [Nat.zero_add, List.getElem?_toArray]; exact hv)⟩⟩ (by intro u hu; simp at hu; rcases hu with rfl | rfl | rfl <;> rfl) Hm1.out Hm2.out ?_; intro a' cap' w4 hown hk4 hl4))
                go_roundw
                case rel => exact order_end hL hW hd hk3' hL' (hloc.imp id fun ⟨g, e1, e2⟩ => ⟨g, e1, Nat.le_trans hX.size e2⟩) HS2.out rfl (by simpa using hown) hk4 hl4 h100
                case measure => simp [intOf]; omega
            · have hb1 : ¬ ((k : Int) < nb) := by omega
              have hX := ((Keep.refl (fun _ => False) wr).alloc (.cells #[.int .i64 (1 + z % 16), .int .i64 0, .slice none 0 0] 49))
              have hXB := block_new wr (.cells #[.int .i64 (1 + z % 16), .int .i64 0, .slice none 0 0] 49)
              go_wp2_with (first | (go_at_call 27; refine (live_kind hL _).mono ?_; rintro e w' ⟨rfl, rfl⟩; rw [HK.out]) | (go_at_call 33; refine (live_give (hL.quiet hX) hkept _ 0 5).mono ?_; rintro e w3 ⟨rfl, kv', hL', hk3, hloc⟩; have hB3 := block_keep hXB hk3 HNB.out; have b0 := cell_of hB3 (i := 0) rfl; have b1 := cell_of hB3 (i := 1) rfl; have b2 := cell_of hB3 (i := 2) rfl; have hk3' := (hX.mono (fun _ _ f => f.elim)).seq hk3; have hW3 := order_mid hL hW hd hk3') | (refine wpList_appendX _ rfl (.tmp 68) (.tmp 70) 40 rfl Try.underlying40 info49 rfl (by decide) _ _ _ rfl (ownsRow_keep hW3.1 ((Keep.refl (fun _ => False) w3).alloc _) (fun _ _ f => f)) _ 1 [.int .i64 (1 + z % 16), .int .i64 0, .slice none 0 0] rfl ⟨rfl, .inr ⟨_, 0, 1, rfl, by decide, by decide, by simp, fun j v hv => cell_of (block_new _ _) (by rw [Nat.zero_add, List.getElem?_toArray]; exact hv)⟩⟩ (by intro u hu; simp at hu; rcases hu with rfl | rfl | rfl <;> rfl) Hm1.out Hm2.out ?_; intro a' cap' w4 hown hk4 hl4))
              go_roundw
              case rel => exact order_end hL hW hd hk3' hL' (hloc.imp id fun ⟨g, e1, e2⟩ => ⟨g, e1, Nat.le_trans hX.size e2⟩) HS1.out rfl (by simpa using hown) hk4 hl4 h100
              case measure => simp [intOf]; omega
        · have hl16 : l.length ≤ 16 := by have := hO.len; omega
          have HE := Lib.hid (show ((T.R.length : Int) == 16 - (l.length : Int)) = true by have := hO.len; simp; omega)
          have HD := Lib.hid (show decide (T.kept = l) = true by simp [hO.kept])
          have HR := Lib.hid (show T.R.length ≤ 16 by have := hO.len; omega)
          have hcond : ¬ ((k : Int) < n ∧ (k : Int) < 100) := by omega
          clear hlt
          by_cases hlt : (k : Int) < n
          · have h100 : ¬ (k : Int) < 100 := fun h => hcond ⟨hlt, h⟩
            clear hcond
            go_wp2_with (first
              | (go_at_call 23; refine (live_pending hL hO.ids HR.out).mono ?_; rintro e w5 ⟨qa, qc, rfl, -, hL5, hk5⟩; have hW5 := hW.keep hk5 (fun _ _ f => f); have heq := HE.out)
              | (go_at_call 30; refine (live_take hL7).mono ?_; rintro e w8 ⟨rfl, -, hL8, -⟩)
              | (go_at_call 30; refine (live_take hL5).mono ?_; rintro e w6 ⟨rfl, hR6, hL6, hk6⟩; have hW6 := hW5.keep hk6 (by rintro g hg rfl; exact own_ne_block hW5.1 hL5.tab.tab (by decide) hg))
              | (go_at_call 29; refine (answers_any _ _ _ _ _ hR6 hW6.read).mono ?_; rintro e w7 ⟨rfl, hk7⟩; rw [HD.out]; have hL7 := hL6.quiet hk7))
            go_ret
            exact ⟨rfl, hL8.keep⟩
          · clear hcond
            go_wp2_with (first
              | (go_at_call 23; refine (live_pending hL hO.ids HR.out).mono ?_; rintro e w5 ⟨qa, qc, rfl, -, hL5, hk5⟩; have hW5 := hW.keep hk5 (fun _ _ f => f); have heq := HE.out)
              | (go_at_call 30; refine (live_take hL7).mono ?_; rintro e w8 ⟨rfl, -, hL8, -⟩)
              | (go_at_call 30; refine (live_take hL5).mono ?_; rintro e w6 ⟨rfl, hR6, hL6, hk6⟩; have hW6 := hW5.keep hk6 (by rintro g hg rfl; exact own_ne_block hW5.1 hL5.tab.tab (by decide) hg))
              | (go_at_call 29; refine (answers_any _ _ _ _ _ hR6 hW6.read).mono ?_; rintro e w7 ⟨rfl, hk7⟩; rw [HD.out]; have hL7 := hL6.quiet hk7))
            go_ret
            exact ⟨rfl, hL8.keep⟩
end Go.Proofs.Xw
