import Derived.Test.YtpoeomnopcgheaaXwOnce
import Derived.Test.YtpoeomnopcgheaaXwActs
import Derived.Deep.DeepCutAuto
import Derived.Deep.CutBlock
namespace Go.Proofs.Xw
open Go.RowKit Go.Xw

/-- An action of layer 17: its kind, request, N, place and value. -/
def Act17 (cs : List Value) : Prop := ∃ kd id nn pl v : Int, cs = [.int .i64 kd, .int .i64 id, .int .i64 nn, .int .i64 pl, .int .u64 v] ∧ id ≤ 9223372036854775807

def OnceRel (w : World) (p m : Nat) (so sa sc i : Value) (wr : World) : Prop :=
  ∃ (k o a : Nat) (T : Tab) (kv : Value), k ≤ 150 ∧ i = .int .i64 k ∧ so = .int .i64 o ∧ sa = .int .i64 a ∧ sc = .int .i64 0 ∧ Live w wr p m kv T ∧ T.kept = [] ∧ T.ids ∧ T.room = 16 ∧ o = a + T.R.length ∧ o ≤ k
def OnceMid (w : World) (p m : Nat) (o : Nat) (T : Tab) (so sc : Value) (wr : World) : Prop :=
  ∃ (od dc : Nat) (T' : Tab) (kv : Value), so = .int .i64 ((o + od : Nat) : Int) ∧ sc = .int .i64 dc ∧ od ≤ 1 ∧ dc ≤ 1 ∧ Live w wr p m kv T' ∧ OneStep T T' od dc

set_option maxRecDepth 100000 in
set_option maxHeartbeats 1000000 in
theorem once_walk (w : World) (a : Option Addr) (n ca : Nat) (rows : Nat → List Value) (ha : InR w 5 a n ca rows) (hg : ∀ k, k < n → Act17 (rows k)) :
    Calls Try.prog 4 #[.slice a n ca] w fun e w' => e = .returned (.bool true) ∧ Keep (fun _ => False) w w' := by
  have hn63 : n ≤ 9223372036854775807 := Nat.le_trans ha.1 (by decide)
  have HA := Lib.hid (And.intro ha hg); clear ha hg
  go_enter Try.func4, Try.ntmps4
  go_wp2_with (first
    | (go_at_call 18; refine (awake_any w w (Keep.refl _ _)).mono ?_; rintro e w1 ⟨rfl, hk1⟩)
    | (go_at_call 19; refine (live_new (w0 := w) hk1 16 (by decide) (by decide)).mono ?_; rintro e w2 ⟨p, m, rfl, h0, -, -, -⟩))
  go_loopw [5, 6, 7, 8] (fun so sa sc i wr => OnceRel w p m so sa sc i wr) (fun _ _ _ i _ => 200 - (intOf i).toNat)
  case atStart => exact ⟨0, 0, 0, _, _, by omega, rfl, rfl, rfl, rfl, h0, rfl, (fun q hq => by cases hq), rfl, rfl, by omega⟩
  case round =>
    obtain ⟨k, o, an, T, kv, hk, rfl, rfl, rfl, rfl, hL, hkept, hids, hroom, ho, hok⟩ := hrel
    by_cases hlt : k < n ∧ k < 150
    · obtain ⟨hlt, h150⟩ := hlt
      obtain ⟨b, off, rfl, hcap, hb, hrl, hr⟩ := HA.out.1.at_ hL.keep hlt
      obtain ⟨kd, id, nn, pl, v, hrow, hid⟩ := HA.out.2 k hlt
      rw [hrow] at hr
      have c0 := hr 0 _ rfl; rw [Nat.add_zero] at c0
      have c1 := hr 1 _ rfl
      have c2 := hr 2 _ rfl
      have c3 := hr 3 _ rfl
      have c4 := hr 4 _ rfl
      clear hr hrl hrow
      have hl1 : (k : Int) < n := by omega
      have hl2 : (k : Int) < 150 := by omega
      have HS := Lib.hid (And.intro hkept (And.intro hids (And.intro hroom (And.intro ho hid))))
      clear hkept hids hroom ho
      go_upto_block 2 with fail
      have hX : Keep (fun _ => False) wr (wr.alloc (.cells #[.int .i64 kd, .int .i64 id, .int .i64 nn, .int .i64 pl, .int .u64 v] 32)) := (Keep.refl _ _).alloc _
      have hLX := hL.quiet hX
      have HN := Lib.hid (once_none hL.wf HS.out.2.1 HS.out.1)
      have HO := Lib.hid (once_open hL.wf HS.out.2.1 HS.out.1 nn pl HS.out.2.2.2.2)
      have HP := Lib.hid (fun (what : Int) (h : what = 1 ∨ what = 2) (v : Int) => once_put hL.wf HS.out.2.1 HS.out.1 id pl h v)
      have HC := Lib.hid (once_cancel hL.wf HS.out.2.1 HS.out.1 id)
      have hK0 : T.kept.length < 1000000 := by rw [HS.out.1]; decide
      go_cut [5, 7] (fun so sc wx => OnceMid w p m o T so sc wx)
      case first =>
        by_cases h0 : kd = 0
        · subst h0
          by_cases hc : T.openC id nn pl = 0
          · rw [hc, if_pos rfl] at HO
            go_wp2_with (go_at_call 32; refine (live_open hLX id nn pl).mono ?_; rintro e w3 ⟨rfl, kv', hL', -⟩; rw [hc])
            go_meet
            exact ⟨1, 0, _, _, by simp, rfl, by omega, by omega, hL', HO.out⟩
          · rw [if_neg hc] at HO
            go_wp2_with (go_at_call 32; refine (live_open hLX id nn pl).mono ?_; rintro e w3 ⟨rfl, kv', hL', -⟩)
            go_meet
            exact ⟨0, 0, _, _, by simp, rfl, by omega, by omega, hL', HO.out⟩
        · by_cases h1 : kd = 1
          · subst h1
            go_wp2_with (go_at_call 33; refine (live_give hLX hK0 id pl v).mono ?_; rintro e w3 ⟨rfl, kv', hL', -⟩)
            go_meet
            exact ⟨0, 0, _, _, by simp, rfl, by omega, by omega, hL', HP.out 1 (.inl rfl) v⟩
          · by_cases h2 : kd = 2
            · subst h2
              go_wp2_with (go_at_call 34; refine (live_lose hLX hK0 id pl).mono ?_; rintro e w3 ⟨rfl, kv', hL', -⟩)
              go_meet
              exact ⟨0, 0, _, _, by simp, rfl, by omega, by omega, hL', HP.out 2 (.inr rfl) 0⟩
            · by_cases h3 : kd = 3
              · subst h3
                by_cases hc : T.cancelC id = 0
                · rw [hc, if_pos rfl] at HC
                  go_wp2_with (go_at_call 35; refine (live_cancel hLX hK0 id).mono ?_; rintro e w3 ⟨rfl, kv', hL', -⟩; rw [hc])
                  go_meet
                  exact ⟨0, 1, _, _, by simp, rfl, by omega, by omega, hL', HC.out⟩
                · rw [if_neg hc] at HC
                  go_wp2_with (go_at_call 35; refine (live_cancel hLX hK0 id).mono ?_; rintro e w3 ⟨rfl, kv', hL', -⟩)
                  go_meet
                  exact ⟨0, 0, _, _, by simp, rfl, by omega, by omega, hL', HC.out⟩
              · go_wp2
                go_meet
                exact ⟨0, 0, _, _, by simp, rfl, by omega, by omega, hLX, HN.out⟩
      case rest =>
        obtain ⟨od, dc, T', kv', rfl, rfl, hod, hdc, hL', hS'⟩ := hcut
        clear HN HO HP HC hLX hL hX
        obtain ⟨O, hO⟩ : ∃ O, o + od = O := ⟨_, rfl⟩
        rw [hO]
        have HO := Lib.hid hO; clear hO
        have hO151 : O ≤ 151 := by have := HO.out; omega
        have han : an ≤ 150 := by have := HS.out.2.2.2.1; omega
        go_wp2_with (go_at_call 30; refine (live_take hL').mono ?_; rintro e w5 ⟨rfl, hR, hL5, -⟩)
        obtain ⟨vs, q1, q2, q3⟩ := hR
        obtain ⟨sa, scap, rfl⟩ := q2.form
        have hR : AnsR w5 (.slice sa T'.kept.length scap) T'.kept := ⟨vs, q1, q2, q3⟩
        clear q1 q2 q3
        obtain ⟨L, hLe⟩ : ∃ L, T'.kept.length = L := ⟨_, rfl⟩
        rw [hLe] at hR ⊢
        have HL := Lib.hid hLe; clear hLe
        have hL1 : L ≤ 1 := by have := hS'.one; have := HL.out; omega
        have HS' := Lib.hid hS'; clear hS'
        go_loopw [7, 11] (fun c j wr => ∃ jn : Nat, jn ≤ L ∧ j = .int .i64 jn ∧ c = .int .i64 (if jn = 0 then (dc : Int) else 0) ∧ Live w wr p m (.slice none 0 0) T'.take ∧ AnsR wr (.slice sa L scap) T'.kept) (fun _ j _ => 5 - (intOf j).toNat)
        case atStart => exact ⟨0, by omega, rfl, by simp, hL5, hR⟩
        case round =>
          obtain ⟨jn, hj, rfl, rfl, hL6, hR6⟩ := hrel
          by_cases hlt2 : jn < L
          · obtain rfl : jn = 0 := by omega
            obtain rfl : L = 1 := by omega
            obtain ⟨vs, q1, q2, q3⟩ := hR6
            rw [if_pos rfl]
            obtain ⟨x, hx⟩ : ∃ x, T'.kept = [x] := by
              match hk : T'.kept, HL.out with
              | [x], _ => exact ⟨x, rfl⟩
            obtain ⟨u, hu⟩ : ∃ u, vs = [u] := by
              match vs, q1.trans HL.out with
              | [u], _ => exact ⟨u, rfl⟩
            subst hu
            have hxo := HS'.out.ok x (by rw [hx]; simp)
            have hcan := HS'.out.can
            rw [hx] at q2 q3 hcan
            obtain ⟨-, hca, -, g, off2, rfl, hg, hr2⟩ := q2.at' (k := 0) (by simp)
            obtain ⟨ua, ucap, rfl⟩ := (q3 0 x u rfl rfl).form
            have hR7 : AnsR wr (.slice (some ⟨g, off2, none⟩) 1 scap) T'.kept := by rw [hx]; exact ⟨_, rfl, q2, q3⟩
            have d0 := hr2 0 _ rfl
            have d1 := hr2 1 _ rfl
            have d2 := hr2 2 _ rfl
            rw [Nat.add_zero] at d0
            clear q1 q2 q3 hr2
            obtain ⟨xi, xc, xv⟩ := x
            simp only at *
            have HX := Lib.hid hx; clear hx
            have hR8 := hR7.keep0 ((Keep.refl _ wr).alloc (.cells #[.int .i64 xi, .int .i64 xc, .slice ua xv.length ucap] 49))
            have hL7 := hL6.quiet ((Keep.refl _ wr).alloc (.cells #[.int .i64 xi, .int .i64 xc, .slice ua xv.length ucap] 49))
            by_cases hc0 : xc = 0
            · subst hc0
              have hdc0 : dc = 0 := by simp at hcan; omega
              subst hdc0
              have hv8 : xv.length ≤ 8 := by
                rcases hxo with h | h
                · exact h.2
                · rw [h.1]; simp
              clear hxo hcan
              go_wp2
              go_roundw
              case rel => exact ⟨1, by omega, by go_num, by simp, hL7, hR8⟩
              case measure => simp [intOf]
            · have hxv : xv = [] := by
                rcases hxo with h | h
                · exact absurd h.1 hc0
                · exact h.1
              subst hxv
              have hc78 : xc = 7 ∨ xc = 8 := by
                rcases hxo with h | h
                · exact absurd h.1 hc0
                · exact h.2
              clear hxo hc0
              rcases hc78 with rfl | rfl
              · have hdc0 : dc = 0 := by simp at hcan; omega
                subst hdc0
                clear hcan
                go_wp2
                go_roundw
                case rel => exact ⟨1, by omega, by go_num, by simp, hL7, hR8⟩
                case measure => simp [intOf]
              · have hdc0 : dc = 1 := by simp at hcan; omega
                subst hdc0
                clear hcan
                go_wp2
                go_roundw
                case rel => exact ⟨1, by omega, by go_num, by simp, hL7, hR8⟩
                case measure => simp [intOf]
          · obtain rfl : jn = L := by omega
            have hz : (if jn = 0 then (dc : Int) else 0) = 0 := by
              split
              · have h1 := HS'.out.can
                have h2 : T'.kept = [] := by
                  have := HL.out
                  match hk : T'.kept, this with
                  | [], _ => rfl
                  | _ :: _, h => simp at h; omega
                rw [h2] at h1; simp at h1; omega
              · rfl
            rw [hz]
            have hne : ((O : Int) != (an : Int) + (jn : Int) + (T'.take.R.length : Int)) = false := by
              have h1 := HS'.out.len
              have h2 := HL.out
              have h3 := HS.out.2.2.2.1
              have h4 := HO.out
              show ((O : Int) != (an : Int) + (jn : Int) + (T'.R.length : Int)) = false
              simp; omega
            have hids5 : T'.take.ids := HS'.out.ids
            have hlen5 : T'.take.R.length ≤ 16 := by
              have h1 := hL6.wf.room
              have h2 : T'.take.room = 16 := by show T'.room = 16; rw [HS'.out.room]; exact HS.out.2.2.1
              omega
            go_wp2_with (go_at_call 23; refine (live_pending hL6 hids5 hlen5).mono ?_; rintro e w6 ⟨pa, pc, rfl, -, hL7, -⟩)
            go_roundw
            case rel =>
              have h1 := HS'.out.len
              have h2 := HL.out
              have h3 := HS.out.2.2.2.1
              have h4 := HO.out
              refine ⟨k + 1, O, an + jn, T'.take, _, by omega, by go_num, rfl, by go_num, rfl, hL7, rfl, hids5, ?_, ?_, by omega⟩
              · show T'.room = 16
                rw [HS'.out.room]; exact HS.out.2.2.1
              · show O = an + jn + T'.R.length
                omega
            case measure => simp [intOf]; omega
    · have hcond : ¬ ((k : Int) < n ∧ (k : Int) < 150) := by omega
      clear hlt hkept hids hroom ho
      by_cases hlt : (k : Int) < n
      · have h100 : ¬ (k : Int) < 150 := fun h => hcond ⟨hlt, h⟩
        clear hcond
        go_wp2
        go_ret
        exact ⟨rfl, hL.keep⟩
      · clear hcond
        go_wp2
        go_ret
        exact ⟨rfl, hL.keep⟩
end Go.Proofs.Xw
