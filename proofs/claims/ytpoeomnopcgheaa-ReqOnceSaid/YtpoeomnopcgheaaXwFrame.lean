/- What a call leaves as it was: all blocks that lay before it, but those of which F holds. -/
import Derived.WalkKit
import Derived.Deep.Quiet
import Derived.MapKept
import Derived.Deep.MidRow
import Derived.Deep.WholeRow
import Derived.StillTailTactics
import Derived.Deep.QuietTactic
import Derived.BigQuiet
import Derived.Deep.AppendLies
import Derived.Deep.RegionLaw
import Derived.Deep.RegionHeld3
import Derived.Deep.DrawnRows
import Derived.WalkLawsBesides
import Derived.Lib.Hide
namespace Go.Xw
open Go.RowKit

structure Keep (F : Nat → Prop) (w w' : World) : Prop where
  os : w'.os = w.os
  tape : w'.tape = w.tape
  output : w'.output = w.output
  size : w.heap.size ≤ w'.heap.size
  block : ∀ k, k < w.heap.size → ¬ F k → w'.heap[k]? = w.heap[k]?

theorem Keep.refl (F : Nat → Prop) (w : World) : Keep F w w := ⟨rfl, rfl, rfl, Nat.le_refl _, fun _ _ _ => rfl⟩
theorem Keep.mono {F G : Nat → Prop} {w w' : World} (h : Keep F w w') (hG : ∀ k, k < w.heap.size → F k → G k) : Keep G w w' :=
  ⟨h.os, h.tape, h.output, h.size, fun k hk hn => h.block k hk (fun hf => hn (hG k hk hf))⟩
theorem Keep.trans {F G : Nat → Prop} {w w1 w2 : World} (h : Keep F w w1) (h' : Keep G w1 w2) (hG : ∀ k, k < w.heap.size → G k → F k) : Keep F w w2 :=
  ⟨h'.os.trans h.os, h'.tape.trans h.tape, h'.output.trans h.output, Nat.le_trans h.size h'.size,
    fun k hk hn => (h'.block k (Nat.lt_of_lt_of_le hk h.size) (fun g => hn (hG k hk g))).trans (h.block k hk hn)⟩
theorem Keep.seq {F : Nat → Prop} {w w1 w2 : World} (h : Keep F w w1) (h' : Keep F w1 w2) : Keep F w w2 := h.trans h' fun _ _ g => g
theorem Keep.of_grownBy {w w' : World} {row : Option Nat} (h : w.grownBy w' row) : Keep (fun k => some k = row) w w' :=
  ⟨h.os, h.tape, h.output, h.size, h.block⟩
theorem Keep.of_below {B : Nat} {w w' : World} (h : Below B w w') : Keep (fun k => B ≤ k) w w' :=
  ⟨h.os, h.tape, h.output, h.size, fun k _ hn => h.block k (Nat.lt_of_not_le hn)⟩
theorem Keep.of_below' {w w' : World} (F : Nat → Prop) (h : Below w.heap.size w w') : Keep F w w' :=
  ⟨h.os, h.tape, h.output, h.size, fun k hk _ => h.block k hk⟩
theorem Keep.below {B : Nat} {F : Nat → Prop} {w w' : World} (h : Keep F w w') (hB : B ≤ w.heap.size) (hF : ∀ k, F k → B ≤ k) : Below B w w' :=
  ⟨h.os, h.tape, h.output, h.size, fun k hk => h.block k (by omega) (fun f => by have := hF k f; omega)⟩
theorem Keep.alloc {F : Nat → Prop} {w w' : World} (h : Keep F w w') (o : Obj) : Keep F w (w'.alloc o) :=
  h.trans (G := fun _ => False) ⟨rfl, rfl, rfl, by simp, fun k hk _ => Below.heap_alloc _ _ _ hk⟩ (fun _ _ g => g.elim)
theorem Keep.drew {F : Nat → Prop} {w w' : World} (h : Keep F w w') : Keep F w w'.drew := ⟨h.os, h.tape, h.output, h.size, h.block⟩
theorem Keep.drewN {F : Nat → Prop} {w w' : World} (h : Keep F w w') (n : Nat) : Keep F w (w'.drewN n) := ⟨h.os, h.tape, h.output, h.size, h.block⟩
theorem Keep.setCell {F : Nat → Prop} {w w' : World} (h : Keep F w w') (a : Addr) (v : Value) (ha : F a.block ∨ w.heap.size ≤ a.block) : Keep F w (w'.setCell a v) :=
  ⟨h.os, h.tape, h.output, Nat.le_trans h.size (by simp [World.setCell]), fun k hk hn => by
    rw [Below.heap_setCell _ _ _ _ (fun e => by subst e; rcases ha with ha | ha; exact hn ha; omega)]
    exact h.block k hk hn⟩
theorem Keep.cell {F : Nat → Prop} {w w' : World} (h : Keep F w w') {a : Addr} (ha : a.block < w.heap.size) (hn : ¬ F a.block) : w'.cell? a = w.cell? a :=
  World.cell?_of_block (w := w) (h.block a.block ha hn)
theorem Keep.frozen {F : Nat → Prop} {w w' : World} (h : Keep F w w') {a : Addr} (ha : a.block < w.heap.size) (hn : ¬ F a.block) : w'.frozen? a = w.frozen? a :=
  World.frozen?_of_block (w := w) (h.block a.block ha hn)

/-! ### blocks known whole -/
theorem cell_of {w : World} {b i : Nat} {c : Array Value} {E : TypeId} {fr : Nat × Nat} {v : Value} (h : w.heap[b]? = some (.cells c E fr)) (hi : c[i]? = some v) : w.cell? ⟨b, i, none⟩ = some v := by simp [World.cell?, h, hi]
theorem free_of {w : World} {b i : Nat} {c : Array Value} {E : TypeId} (h : w.heap[b]? = some (.cells c E (0, 0))) : w.frozen? ⟨b, i, none⟩ = false := by simp [World.frozen?, h]
theorem lt_of {w : World} {b : Nat} {o : Obj} (h : w.heap[b]? = some o) : b < w.heap.size := (Array.getElem?_eq_some_iff.1 h).1
theorem block_set {w : World} {b i : Nat} {c : Array Value} {E : TypeId} {fr : Nat × Nat} (h : w.heap[b]? = some (.cells c E fr)) (v : Value) : (w.setCell ⟨b, i, none⟩ v).heap[b]? = some (.cells (c.setIfInBounds i v) E fr) := by
  simp [World.setCell, Array.getElem?_modify, h]
theorem block_set_ne {w : World} {b : Nat} {o : Option Obj} {a : Addr} (h : w.heap[b]? = o) (hne : b ≠ a.block) (v : Value) : (w.setCell a v).heap[b]? = o := by
  rw [Below.heap_setCell _ _ _ _ hne]; exact h
theorem block_new (w : World) (o : Obj) : (w.alloc o).heap[w.heap.size]? = some o := (MapKept.heap_alloc w o).1
theorem block_old {w : World} {b : Nat} {o : Obj} (h : w.heap[b]? = some o) (o' : Obj) : (w.alloc o').heap[b]? = some o := by
  rw [Below.heap_alloc _ _ _ (lt_of h)]; exact h
theorem block_keep {F : Nat → Prop} {w w' : World} {b : Nat} {o : Obj} (h : w.heap[b]? = some o) (k : Keep F w w') (hn : ¬ F b) : w'.heap[b]? = some o := (k.block b (lt_of h) hn).trans h
theorem block_below {B : Nat} {w w' : World} {b : Nat} {o : Obj} (h : w.heap[b]? = some o) (k : Below B w w') (hb : b < B) : w'.heap[b]? = some o := (k.block b hb).trans h
/-- Two blocks of which one holds cells of one type and the other of another are two. -/
theorem ne_of_type {w : World} {b b' : Nat} {c c' : Array Value} {E E' : TypeId} {fr fr' : Nat × Nat} (h : w.heap[b]? = some (.cells c E fr)) (h' : w.heap[b']? = some (.cells c' E' fr')) (hE : E ≠ E') : b ≠ b' := by
  intro e; subst e; rw [h] at h'; cases h'; exact hE rfl
/-! ### a struct or an array loaded out of a block, or stored into it -/
def spl : Array Value → Nat → List Value → Array Value
  | c, _, [] => c
  | c, o, v :: vs => spl (c.setIfInBounds o v) (o + 1) vs
theorem spl_size : ∀ (vs : List Value) (c : Array Value) (o : Nat), (spl c o vs).size = c.size
  | [], _, _ => rfl
  | v :: vs, c, o => by rw [spl, spl_size vs]; simp
theorem spl_get : ∀ (vs : List Value) (c : Array Value) (o i : Nat), (spl c o vs)[i]? = if o ≤ i ∧ i < o + vs.length ∧ i < c.size then vs[i - o]? else c[i]?
  | [], c, o, i => by simp [spl]; omega
  | v :: vs, c, o, i => by
    rw [spl, spl_get vs]
    simp only [Array.size_setIfInBounds, List.length_cons, Array.getElem?_setIfInBounds]
    by_cases h : o = i
    · subst h
      rw [if_neg (by omega), if_pos rfl]
      by_cases h2 : o < c.size <;> simp [h2]
    · by_cases h1 : o + 1 ≤ i ∧ i < o + 1 + vs.length ∧ i < c.size
      · rw [if_pos h1, if_pos (by omega)]
        obtain ⟨d, hd⟩ : ∃ d, i - o = d + 1 := ⟨i - o - 1, by omega⟩
        rw [hd, List.getElem?_cons_succ]; congr 1; omega
      · rw [if_neg h1, if_neg h]
        split
        · rename_i h2; omega
        · rfl
theorem spl_whole {c : Array Value} {vs : List Value} (h : vs.length = c.size) : spl c 0 vs = vs.toArray := by
  apply Array.ext_getElem?
  intro i
  rw [spl_get]
  by_cases hi : i < c.size
  · rw [if_pos (by omega)]; simp
  · rw [if_neg (by omega)]; simp [hi]; omega
theorem block_setCells {E : TypeId} {fr : Nat × Nat} {b : Nat} : ∀ (vs : List Value) (o : Nat) (w : World) (c : Array Value), w.heap[b]? = some (.cells c E fr) → (w.setCells b o vs).heap[b]? = some (.cells (spl c o vs) E fr)
  | [], _, _, _, h => h
  | v :: vs, o, w, c, h => by
    rw [World.setCells, spl]
    exact block_setCells vs (o + 1) _ _ (block_set h v)
theorem grownBy_setCells {b : Nat} : ∀ (vs : List Value) (o : Nat) (w : World), w.grownBy (w.setCells b o vs) (some b)
  | [], _, w => World.grownBy.refl w _
  | v :: vs, o, w => by
    rw [World.setCells]
    have h1 : w.grownBy (w.setCell ⟨b, o, none⟩ v) (some b) := ⟨rfl, rfl, rfl, by simp [World.setCell], fun k _ hne => Below.heap_setCell _ _ _ _ (fun e => hne (by rw [e]))⟩
    have h2 := grownBy_setCells (b := b) vs (o + 1) (w.setCell ⟨b, o, none⟩ v)
    have hs : (w.setCell ⟨b, o, none⟩ v).heap.size = w.heap.size := by simp [World.setCell]
    exact ⟨h2.os.trans h1.os, h2.tape.trans h1.tape, h2.output.trans h1.output, Nat.le_trans h1.size h2.size, fun k hk hne => (h2.block k (by omega) hne).trans (h1.block k hk hne)⟩

theorem far_cell {W w1 w2 : World} {O : Obj} {row : Option Nat} (hg : W.grownBy w2 row) (hW : W.heap = (w1.alloc O).heap) {b i : Nat} {v : Value} (hlt : b < w1.heap.size) (hne : row ≠ some b) (hc : w1.cell? ⟨b, i, none⟩ = some v) : w2.cell? ⟨b, i, none⟩ = some v := by
  have h := hg.block b (Nat.lt_of_lt_of_le hlt (by rw [hW]; show _ ≤ (w1.heap.push O).size; simp)) (Ne.symm hne)
  rw [hW, Below.heap_alloc _ _ _ hlt] at h
  rw [← hc]
  exact World.cell?_of_block (w := w1) h
theorem far_free {W w1 w2 : World} {O : Obj} {row : Option Nat} (hg : W.grownBy w2 row) (hW : W.heap = (w1.alloc O).heap) {b i : Nat} {r : Bool} (hlt : b < w1.heap.size) (hne : row ≠ some b) (hc : w1.frozen? ⟨b, i, none⟩ = r) : w2.frozen? ⟨b, i, none⟩ = r := by
  have h := hg.block b (Nat.lt_of_lt_of_le hlt (by rw [hW]; show _ ≤ (w1.heap.push O).size; simp)) (Ne.symm hne)
  rw [hW, Below.heap_alloc _ _ _ hlt] at h
  rw [← hc]
  exact World.frozen?_of_block (w := w1) h

section ops
variable {P : Program} {ops : Array Oper} {rest : List Oper} {op : Oper} {a : Act} {Q : Exit → Act → World → Prop}
theorem wpList_load_blk (w : World) (hgd : Region.wanted op (yielded ops a.tmps) = true) (ty : TypeId) (x : Operand) (ho : op.op = .load ty x)
    (b o : Nat) (hx : a.eval x = .pointer (some ⟨b, o, none⟩)) {c : Array Value} {E : TypeId} {fr : Nat × Nat} (hb : w.heap[b]? = some (.cells c E fr)) (cs : List Value) (hcs : (c.extract o (o + cs.length)).toList = cs)
    {d : TypeDesc} (hu : P.underlying ty = some d) (hd : d.isRow = true) (hi : (P.info? ty).map (·.size) = some cs.length)
    (h : wpList P ops Q rest (a.put op.dst (.agg cs.toArray)) w) : wpList P ops Q (op :: rest) a w :=
  BigFrame.wpList_want hgd fun _ hK => wp_load_mid ty x ho b o hx cs d (by have := World.rangeAt_of_block hb o cs.length; rwa [hcs] at this) hu hd hi (hK _ _ h)
theorem wpList_store_blk (w : World) (hgd : Region.wanted op (yielded ops a.tmps) = true) (ty : TypeId) (x y : Operand) (ho : op.op = .store ty x y)
    (b o : Nat) (cells : Array Value) (hx : a.eval x = .pointer (some ⟨b, o, none⟩)) (hy : a.eval y = .agg cells) {c : Array Value} {E : TypeId} (hb : w.heap[b]? = some (.cells c E (0, 0)))
    (hle : o + cells.size ≤ c.size) (hi : (P.info? ty).map (·.size) = some cells.size) (h1 : cells.all (·.oneCell') = true)
    (h : ∀ w', w'.heap[b]? = some (.cells (spl c o cells.toList) E (0, 0)) → w.grownBy w' (some b) → wpList P ops Q rest (a.put op.dst undef) w') : wpList P ops Q (op :: rest) a w :=
  BigFrame.wpList_want hgd fun _ hK => wp_store_mid ty x y ho b o cells hx hy (fun j hj => ⟨by rw [cell_of hb (i := o + j) (Array.getElem?_eq_getElem (by omega))]; rfl, free_of hb⟩) hi h1 (hK _ _ (h _ (block_setCells _ _ _ _ hb) (grownBy_setCells _ _ _)))

theorem wpList_store_new (w : World) (hgd : Region.wanted op (yielded ops a.tmps) = true) (ty : TypeId) (x y : Operand) (ho : op.op = .store ty x y) (c cells : Array Value) (hx : a.eval x = .pointer (some ⟨w.heap.size, 0, none⟩)) (hy : a.eval y = .agg cells)
    (hs : c.size = cells.size) (hi : (P.info? ty).map (·.size) = some cells.size) (h1 : cells.all (·.oneCell') = true)
    (h : wpList P ops Q rest (a.put op.dst undef) (w.alloc (.cells cells ty))) : wpList P ops Q (op :: rest) a (w.alloc (.cells c ty)) := by
  refine BigFrame.wpList_want hgd fun K hK => ?_
  have hr := run_storeAt_new (P := P) w ty c cells hi hs h1
  unfold Oper.wp
  simp [execOp, ho, hx, hy, hr, Result.andThen]
  exact hK _ _ h

theorem wp_region_std {id : Nat} {w : World} {l : List Oper} (n : Nat) (hm : P.follows .mixedOrders = true) (hB : Region.lexTailB .any l.toArray n = true)
    (h : wpStill P l.toArray w.drew (fun a' => wpList P l.toArray Q (l.drop n) a' w.drew) (l.take n) a) : (Code.region id l.toArray true).wp P Q a w := wp_region_still_tail n hm hB h
theorem wp_region_stl {id : Nat} {w : World} {l : List Oper} (hm : P.follows .mixedOrders = true) (hs : Region.lexB .any l.toArray = true)
    (h : wpStill P l.toArray w.drew (Q .normal · w.drew) l a) : (Code.region id l.toArray true).wp P Q a w := wp_region_still_lit hm hs h
theorem wpStill_value {w : World} {R : Act → Prop} (hg : Region.wanted op (yielded ops a.tmps) = true) (v : Value) (hrun : (execOp a.eval op).run P w = .ok (.value v) w) (h : wpStill P ops w R rest (a.put op.dst v)) : wpStill P ops w R (op :: rest) a := by
  refine wpStill_step fun K hK => ?_
  simp only [hg, if_true, Oper.still, hrun, Oper.stillUpon]
  exact ⟨trivial, hK _ h⟩
theorem run_load_blk {w : World} (ty : TypeId) (b o : Nat) {c : Array Value} {E : TypeId} {fr : Nat × Nat} (hb : w.heap[b]? = some (.cells c E fr)) (cs : List Value) (hcs : (c.extract o (o + cs.length)).toList = cs)
    {d : TypeDesc} (hu : P.underlying ty = some d) (hd : d.isRow = true) (hi : (P.info? ty).map (·.size) = some cs.length) : (Instr.loadAt ty (.pointer (some ⟨b, o, none⟩))).run P w = .ok (.agg cs.toArray) w :=
  run_loadAt_mid w b o ty cs d (by have := World.rangeAt_of_block hb o cs.length; rwa [hcs] at this) hu hd hi
theorem wpStill_load_blk {w : World} {R : Act → Prop} (hgd : Region.wanted op (yielded ops a.tmps) = true) (ty : TypeId) (x : Operand) (ho : op.op = .load ty x)
    (b o : Nat) (hx : a.eval x = .pointer (some ⟨b, o, none⟩)) {c : Array Value} {E : TypeId} {fr : Nat × Nat} (hb : w.heap[b]? = some (.cells c E fr)) (cs : List Value) (hcs : (c.extract o (o + cs.length)).toList = cs)
    {d : TypeDesc} (hu : P.underlying ty = some d) (hd : d.isRow = true) (hi : (P.info? ty).map (·.size) = some cs.length)
    (h : wpStill P ops w R rest (a.put op.dst (.agg cs.toArray))) : wpStill P ops w R (op :: rest) a := by
  refine wpStill_value hgd _ ?_ h
  simp [execOp, ho, hx, run_load_blk ty b o hb cs hcs hu hd hi, Result.andThen]
end ops
end Go.Xw
