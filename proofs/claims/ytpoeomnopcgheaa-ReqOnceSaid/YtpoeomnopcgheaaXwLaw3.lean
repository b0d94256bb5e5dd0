import Derived.Test.YtpoeomnopcgheaaXwLaw2
import Derived.Deep.RegionHeld3
namespace Go.Proofs.Xw
open Go.RowKit Go.Xw

theorem calls_args {P : Program} {f : FuncId} {args : Array Value} {w : World} {Q : Ending → World → Prop} (args' : Array Value) (h : args = args') (hc : Calls P f args' w Q) : Calls P f args w Q := h ▸ hc

set_option maxRecDepth 20000 in
set_option maxHeartbeats 1000000 in
theorem awake_any (w0 w : World) (hk : Keep (fun _ => False) w0 w) :
    Calls Try.prog 18 #[] w fun e w' => e = .returned (.bool true) ∧ Keep (fun _ => False) w0 w' := by
  have HK := Lib.hid hk; clear hk
  go_enter Try.func18, Try.ntmps18
  go_upto_region 13 with (first
    | (go_at_call 19; refine calls_args #[.int .i64 2] (by with_reducible rfl) ?_; refine (aw0 (w0 := w0) HK.out).mono ?_; rintro e w1 ⟨p, m, rfl, h0⟩)
    | (go_at_call 19; refine calls_args #[.int .i64 17] (by with_reducible rfl) ?_; refine (new_bad _ 17 (by decide)).mono ?_; rintro e w' ⟨rfl, rfl⟩)
    | (go_at_call 32; refine calls_args #[.pointer (some ⟨p, 0, none⟩), .int .i64 5, .int .i64 1, .int .i64 2] (by with_reducible rfl) ?_; refine (aw1 (by assumption)).mono ?_; rintro e w1 ⟨rfl, kv1, h1⟩)
    | (go_at_call 32; refine calls_args #[.pointer (some ⟨p, 0, none⟩), .int .i64 6, .int .i64 2, .int .i64 1] (by with_reducible rfl) ?_; refine (aw2 (by assumption)).mono ?_; rintro e w2 ⟨rfl, kv2, h2⟩)
    | (go_at_call 32; refine calls_args #[.pointer (some ⟨p, 0, none⟩), .int .i64 7, .int .i64 1, .int .i64 1] (by with_reducible rfl) ?_; refine (aw3 (by assumption)).mono ?_; rintro e w3 ⟨rfl, kv3, h3⟩)
    | (go_at_call 33; refine calls_args #[.pointer (some ⟨p, 0, none⟩), .int .i64 5, .int .i64 1, .int .u64 9] (by with_reducible rfl) ?_; refine (aw4 (by assumption)).mono ?_; rintro e w4 ⟨rfl, kv4, h4⟩)
    | (go_at_call 25; refine calls_args #[.pointer (some ⟨p, 0, none⟩), .int .i64 5] (by with_reducible rfl) ?_; refine (aw5 (by assumption)).mono ?_; rintro e w5 ⟨rfl, kv5, h5⟩)
    | (go_at_call 25; refine calls_args #[.pointer (some ⟨p, 0, none⟩), .int .i64 6] (by with_reducible rfl) ?_; refine (aw6 (by assumption)).mono ?_; rintro e w6 ⟨rfl, kv6, h6⟩)
    | (go_at_call 27; refine calls_args #[.pointer (some ⟨p, 0, none⟩), .int .i64 6] (by with_reducible rfl) ?_; refine (aw7 (by assumption)).mono ?_; rintro e w7 ⟨rfl, kv7, h7⟩)
    | (go_at_call 27; refine calls_args #[.pointer (some ⟨p, 0, none⟩), .int .i64 7] (by with_reducible rfl) ?_; refine (aw8 (by assumption)).mono ?_; rintro e w8 ⟨rfl, kv8, h8⟩)
    | (go_at_call 33; refine calls_args #[.pointer (some ⟨p, 0, none⟩), .int .i64 5, .int .i64 0, .int .u64 7] (by with_reducible rfl) ?_; refine (aw9 (by assumption)).mono ?_; rintro e w9 ⟨rfl, kv9, h9⟩)
    | (go_at_call 34; refine calls_args #[.pointer (some ⟨p, 0, none⟩), .int .i64 6, .int .i64 0] (by with_reducible rfl) ?_; refine (aw10 (by assumption)).mono ?_; rintro e w10 ⟨rfl, kv10, h10⟩)
    | (go_at_call 30; refine (aw11 (by assumption)).mono ?_; rintro e w11 ⟨sa, sc, rfl, hR, h11⟩))
  clear h0 h1 h2 h3 h4 h5 h6 h7 h8 h9 h10
  go_wp2_with (first
    | (go_at_call 29; refine (aw17 hR).mono ?_; rintro e w12 ⟨rfl, hk12⟩; have h12 := h11.quiet hk12)
    | (go_at_call 30; refine (aw12 (by assumption)).mono ?_; rintro e w13 ⟨rfl, kv13, h13⟩)
    | (go_at_call 23; refine (aw13 (by assumption)).mono ?_; rintro e w14 ⟨pa, pc, rfl, h14⟩)
    | (go_at_call 35; refine calls_args #[.pointer (some ⟨p, 0, none⟩), .int .i64 5] (by with_reducible rfl) ?_; refine (aw14 (by assumption)).mono ?_; rintro e w15 ⟨rfl, kv15, h15⟩)
    | (go_at_call 32; refine calls_args #[.pointer (some ⟨p, 0, none⟩), .int .i64 0, .int .i64 1, .int .i64 1] (by with_reducible rfl) ?_; refine (aw15 (by assumption)).mono ?_; rintro e w16 ⟨rfl, kv16, h16⟩))
  go_ret
  exact ⟨rfl, h16.keep⟩
end Go.Proofs.Xw
