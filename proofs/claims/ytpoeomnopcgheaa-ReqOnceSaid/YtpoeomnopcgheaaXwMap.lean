/- Maps of any element type in memory, as association lists in the order of their entries: the laws of lookup, store, delete and len, at the operation. -/
import Derived.WalkKit
import Derived.Test.YtpoeomnopcgheaaXwFrame
import Derived.Maps.OwnSet
import Derived.Maps.RangeWalk
namespace Go.Xw
open Go.RowKit Go.MapKept

section alist
variable {κ β : Type} [DecidableEq κ]

def afind : List (κ × β) → κ → Option β
  | [], _ => none
  | (k', v) :: l, k => if k' = k then some v else afind l k
def aset : List (κ × β) → κ → β → List (κ × β)
  | [], k, v => [(k, v)]
  | (k', v') :: l, k, v => if k' = k then (k, v) :: l else (k', v') :: aset l k v
def adel : List (κ × β) → κ → List (κ × β)
  | [], _ => []
  | (k', v') :: l, k => if k' = k then l else (k', v') :: adel l k
/-- Where the first entry at a key stands. -/
def aidx : List (κ × β) → κ → Nat → Option (Nat × β)
  | [], _, _ => none
  | (k', v) :: l, k, i => if k' = k then some (i, v) else aidx l k (i + 1)

theorem aidx_none {k : κ} : ∀ {l : List (κ × β)} {i : Nat}, aidx l k i = none → afind l k = none ∧ (∀ p ∈ l, p.1 ≠ k) ∧ (∀ v, aset l k v = l ++ [(k, v)]) ∧ adel l k = l
  | [], _, _ => ⟨rfl, by simp, fun _ => rfl, rfl⟩
  | (k', v) :: l, i, h => by
    by_cases e : k' = k
    · simp [aidx, e] at h
    · rw [aidx, if_neg e] at h
      obtain ⟨h1, h2, h3, h4⟩ := aidx_none h
      refine ⟨by rw [afind, if_neg e]; exact h1, ?_, fun u => by rw [aset, if_neg e, h3]; rfl, by rw [adel, if_neg e, h4]⟩
      intro p hp
      rcases List.mem_cons.1 hp with rfl | hp
      · exact e
      · exact h2 p hp
theorem aidx_some {k : κ} : ∀ {l : List (κ × β)} {i j : Nat} {v : β}, aidx l k i = some (j, v) →
    ∃ n, j = i + n ∧ l[n]? = some (k, v) ∧ afind l k = some v ∧ (∀ u, aset l k u = l.set n (k, u)) ∧ adel l k = l.eraseIdx n
  | [], _, _, _, h => by simp [aidx] at h
  | (k', v') :: l, i, j, v, h => by
    by_cases e : k' = k
    · rw [aidx, if_pos e] at h
      simp only [Option.some.injEq, Prod.mk.injEq] at h
      obtain ⟨rfl, rfl⟩ := h
      exact ⟨0, rfl, by simp [e], by simp [afind, e], fun u => by simp [aset, e], by simp [adel, e]⟩
    · rw [aidx, if_neg e] at h
      obtain ⟨n, hn, h1, h2, h3, h4⟩ := aidx_some h
      exact ⟨n + 1, by omega, by simpa using h1, by rw [afind, if_neg e]; exact h2, fun u => by rw [aset, if_neg e, h3]; rfl, by rw [adel, if_neg e, h4]; rfl⟩

variable {γ : Type} (f : β → γ)
theorem afind_map (l : List (κ × β)) (k : κ) : afind (l.map fun p => (p.1, f p.2)) k = (afind l k).map f := by
  induction l with
  | nil => rfl
  | cons p l ih => obtain ⟨a, b⟩ := p; simp only [List.map_cons, afind]; split <;> simp [ih]
theorem aset_map (l : List (κ × β)) (k : κ) (v : β) : aset (l.map fun p => (p.1, f p.2)) k (f v) = (aset l k v).map fun p => (p.1, f p.2) := by
  induction l with
  | nil => rfl
  | cons p l ih => obtain ⟨a, b⟩ := p; simp only [List.map_cons, aset]; split <;> simp [ih]
theorem adel_map (l : List (κ × β)) (k : κ) : adel (l.map fun p => (p.1, f p.2)) k = (adel l k).map fun p => (p.1, f p.2) := by
  induction l with
  | nil => rfl
  | cons p l ih => obtain ⟨a, b⟩ := p; simp only [List.map_cons, adel]; split <;> simp [ih]
theorem mem_of_afind {l : List (κ × β)} {k : κ} {v : β} (h : afind l k = some v) : (k, v) ∈ l := by
  induction l with
  | nil => simp [afind] at h
  | cons p l ih =>
    obtain ⟨a, b⟩ := p
    rw [afind] at h
    split at h
    · rename_i e; cases h; simp [e]
    · exact List.mem_cons_of_mem _ (ih h)
theorem mem_aset {l : List (κ × β)} {k : κ} {v : β} {p : κ × β} (h : p ∈ aset l k v) : p = (k, v) ∨ p ∈ l := by
  induction l with
  | nil => simp [aset] at h; exact .inl h
  | cons q l ih =>
    obtain ⟨a, b⟩ := q
    rw [aset] at h
    split at h
    · rcases List.mem_cons.1 h with h | h
      · exact .inl h
      · exact .inr (List.mem_cons_of_mem _ h)
    · rcases List.mem_cons.1 h with h | h
      · exact .inr (by simp [h])
      · rcases ih h with h | h
        · exact .inl h
        · exact .inr (List.mem_cons_of_mem _ h)
theorem mem_adel {l : List (κ × β)} {k : κ} {p : κ × β} (h : p ∈ adel l k) : p ∈ l := by
  induction l with
  | nil => simp [adel] at h
  | cons q l ih =>
    obtain ⟨a, b⟩ := q
    rw [adel] at h
    split at h
    · exact List.mem_cons_of_mem _ h
    · rcases List.mem_cons.1 h with h | h
      · simp [h]
      · exact List.mem_cons_of_mem _ (ih h)
theorem afind_none_iff {l : List (κ × β)} {k : κ} : afind l k = none ↔ k ∉ l.map (·.1) := by
  induction l with
  | nil => simp [afind]
  | cons q l ih =>
    obtain ⟨a, b⟩ := q
    rw [afind]
    by_cases e : a = k
    · simp [e]
    · rw [if_neg e, ih]; simp; exact fun _ h => e h.symm
theorem aset_new {l : List (κ × β)} {k : κ} {v : β} (h : afind l k = none) : aset l k v = l ++ [(k, v)] := by
  induction l with
  | nil => rfl
  | cons q l ih =>
    obtain ⟨a, b⟩ := q
    rw [afind] at h
    split at h
    · cases h
    · rename_i e; rw [aset, if_neg e, ih h]; rfl
theorem aset_keys {l : List (κ × β)} {k : κ} {v u : β} (h : afind l k = some u) : (aset l k v).map (·.1) = l.map (·.1) := by
  induction l with
  | nil => simp [afind] at h
  | cons q l ih =>
    obtain ⟨a, b⟩ := q
    rw [afind] at h
    rw [aset]
    split
    · rename_i e; simp [e]
    · rename_i e; rw [if_neg e] at h; simp [ih h]
theorem adel_keys (l : List (κ × β)) (k : κ) : (adel l k).map (·.1) = (l.map (·.1)).erase k := by
  induction l with
  | nil => rfl
  | cons q l ih =>
    obtain ⟨a, b⟩ := q
    rw [adel]
    by_cases e : a = k
    · simp [e]
    · rw [if_neg e]; simp [e, ih]
theorem afind_aset_self (l : List (κ × β)) (k : κ) (v : β) : afind (aset l k v) k = some v := by
  induction l with
  | nil => simp [aset, afind]
  | cons q l ih => obtain ⟨a, b⟩ := q; rw [aset]; split <;> simp_all [afind]
theorem afind_aset_other (l : List (κ × β)) {k k' : κ} (h : k' ≠ k) (v : β) : afind (aset l k v) k' = afind l k' := by
  induction l with
  | nil => simp [aset, afind, Ne.symm h]
  | cons q l ih =>
    obtain ⟨a, b⟩ := q
    rw [aset]
    split
    · rename_i e; subst e; simp [afind, Ne.symm h]
    · simp [afind, ih]
theorem adel_aset_self {l : List (κ × β)} {k : κ} (v : β) : adel (aset l k v) k = adel l k := by
  induction l with
  | nil => simp [aset, adel]
  | cons q l ih => obtain ⟨a, b⟩ := q; rw [aset]; split <;> simp_all [adel]
end alist

/-- What a type of keys owes: how a key of it is found. -/
structure KeyOps (P : Program) (kt : TypeId) {κ : Type} [DecidableEq κ] (enc : κ → Value) : Prop where
  check : ∀ k e w, (Instr.checkKey e 10000 kt (enc k)).run P w = .ok () w
  find : ∀ (k : κ) (l : List MapEntry) (M : List (κ × Value)) (w : World), l.map (fun e => (e.key, e.val)) = M.map (fun p => (enc p.1, p.2)) → (Instr.findKey kt (enc k) l).run P w = .ok (aidx M k 0) w
  stays : ∀ k w, (Instr.keyThatStays (enc k) (enc k)).run P w = .ok (enc k) w
  inj : ∀ a b, enc a = enc b → a = b

def encI (k : Int) : Value := .int .i64 k

theorem keyOps_int {P : Program} {kt : TypeId} (hk : P.underlying kt = some (.int .i64)) : KeyOps P kt encI where
  check k e w := run_checkKey hk (by simp [IsKey, encI]) e 9999
  find k l M w h := by
    refine run_findKey hk ?_
    have : ∀ (l : List MapEntry) (M : List (Int × Value)) (i : Nat), l.map (fun e => (e.key, e.val)) = M.map (fun p => (encI p.1, p.2)) → Instr.findNow (.int .i64) (encI k) l i = some (aidx M k i) := by
      intro l
      induction l with
      | nil => intro M i h; cases M with
        | nil => rfl
        | cons p M => simp at h
      | cons e l ih => intro M i h; cases M with
        | nil => simp at h
        | cons p M =>
          simp only [List.map_cons, List.cons.injEq, Prod.mk.injEq] at h
          obtain ⟨⟨h1, h2⟩, h3⟩ := h
          obtain ⟨pk, pv⟩ := p
          simp only [Instr.findNow, h1, Instr.sameNow, encI]
          by_cases e' : pk = k
          · subst e'; simp [aidx, h2]
          · have : (k == pk) = false := by simp; exact fun h => e' h.symm
            simp only [if_true, this]
            rw [aidx, if_neg e']
            exact ih M (i + 1) h3
    exact this l M 0 h
  stays k w := run_keyThatStays (d := .int .i64) (by simp [IsKey, encI])
  inj a b h := by simpa [encI] using h

/-- BLOCK b IS A MAP WHOSE ENTRIES ARE M, in their order. -/
def MapK {κ : Type} (enc : κ → Value) (w : World) (b : Nat) (M : List (κ × Value)) : Prop :=
  ∃ es clock, w.heap[b]? = some (.map es clock) ∧ Stamped es clock ∧ es.toList.map (fun e => (e.key, e.val)) = M.map (fun p => (enc p.1, p.2))

section map
variable {κ : Type} {enc : κ → Value} {w : World} {b : Nat} {M : List (κ × Value)}

theorem MapK.lt (h : MapK enc w b M) : b < w.heap.size := by
  obtain ⟨es, clock, hb, _⟩ := h
  exact (Array.getElem?_eq_some_iff.1 hb).1
theorem MapK.same {w' : World} (h : MapK enc w b M) (e : w'.heap[b]? = w.heap[b]?) : MapK enc w' b M := by
  obtain ⟨es, clock, hb, r⟩ := h
  exact ⟨es, clock, e.trans hb, r⟩
theorem MapK.made (w : World) : MapK enc (w.alloc (.map #[] 0)) w.heap.size [] := ⟨#[], 0, (MapKept.heap_alloc w _).1, stamped_empty 0, rfl⟩
theorem MapK.alloc (h : MapK enc w b M) (o : Obj) : MapK enc (w.alloc o) b M := h.same (Below.heap_alloc _ _ _ h.lt)

theorem MapK.keys_nodup (h : MapK enc w b M) : (M.map (·.1)).Nodup := by
  obtain ⟨es, clock, hb, ⟨_, _, hn⟩, hM⟩ := h
  have e : es.toList.map (·.key) = (M.map (·.1)).map enc := by
    have := congrArg (List.map Prod.fst) hM
    simpa [List.map_map, Function.comp_def] using this
  rw [e] at hn
  simp only [List.Nodup, List.pairwise_map] at hn ⊢
  exact hn.imp fun h e => h (by rw [e])

theorem MapK.lookup [DecidableEq κ] {P : Program} {t kt et : TypeId} (K : KeyOps P kt enc) (h : MapK enc w b M) (ht : P.underlying t = some (.map kt et)) {z : Value} (hz : (zeroValue et).run P w = .ok z w) (k : κ) (ok : Bool) :
    (Instr.lookup t (.map (some b)) (enc k) ok).run P w = .ok (if ok then .tuple #[(afind M k).getD z, .bool (afind M k).isSome] else (afind M k).getD z) w := by
  obtain ⟨es, clock, hb, hs, hM⟩ := h
  have hf := K.find k es.toList M w hM
  cases hx : aidx M k 0 with
  | none =>
    rw [hx] at hf
    rw [(aidx_none hx).1]
    cases ok <;> simp [Instr.lookup, run_underlying ht, MapKept.run_getObj_map hb, K.check, hf, hz, Result.andThen]
  | some p =>
    obtain ⟨j, v⟩ := p
    rw [hx] at hf
    obtain ⟨n, _, _, h2, _⟩ := aidx_some hx
    rw [h2]
    cases ok <;> simp [Instr.lookup, run_underlying ht, MapKept.run_getObj_map hb, K.check, hf, Result.andThen]

theorem map_set_pairs {es : Array MapEntry} {n : Nat} {kv : Value} {v : Value} {M : List (κ × Value)} {k : κ} (hM : es.toList.map (fun e => (e.key, e.val)) = M.map (fun p => (enc p.1, p.2))) (hk : kv = enc k) :
    (es.modify n fun e => { e with key := kv, val := v }).toList.map (fun e => (e.key, e.val)) = (M.set n (k, v)).map (fun p => (enc p.1, p.2)) := by
  apply List.ext_getElem?
  intro j
  have hj := congrArg (·[j]?) hM
  simp only [List.getElem?_map] at hj
  simp only [List.getElem?_map, Array.getElem?_toList, Array.getElem?_modify, List.getElem?_set]
  by_cases e : n = j
  · subst e
    by_cases hlt : n < M.length
    · have hl : n < es.size := by
        have := congrArg List.length hM; simp at this; omega
      simp [hlt, hl, hk]
    · have hl : ¬ n < es.size := by
        have := congrArg List.length hM; simp at this; omega
      simp [hlt, hl]
  · simp only [if_neg e]
    simpa using hj

theorem MapK.update [DecidableEq κ] {P : Program} {t kt et : TypeId} (K : KeyOps P kt enc) (h : MapK enc w b M) (ht : P.underlying t = some (.map kt et)) (k : κ) (v : Value) :
    ∃ w', (Instr.mapUpdate t (.map (some b)) (enc k) v).run P w = .ok () w' ∧ MapK enc w' b (aset M k v) ∧ w.grownBy w' (some b) := by
  obtain ⟨es, clock, hb, hs, hM⟩ := h
  have hf := K.find k es.toList M w hM
  have hg : ∀ o, w.grownBy { w with heap := w.heap.setIfInBounds b o } (some b) := fun o => ⟨rfl, rfl, rfl, by simp, fun i _ hi => (heap_set hb).2 i (fun e => hi (by rw [e]))⟩
  cases hx : aidx M k 0 with
  | none =>
    rw [hx] at hf
    obtain ⟨_, h2, h3, _⟩ := aidx_none hx
    refine ⟨_, by simp [Instr.mapUpdate, run_underlying ht, MapKept.run_getObj_map hb, K.check, hf, MapKept.run_setObj_map _ hb, Result.andThen]; rfl, ?_, hg _⟩
    refine ⟨_, _, (heap_set hb).1, stamped_push hs ?_, by rw [h3]; simp [hM]⟩
    intro x hx' e
    have hm : (x.key, x.val) ∈ es.toList.map (fun e => (e.key, e.val)) := List.mem_map.2 ⟨x, hx', rfl⟩
    rw [hM] at hm
    obtain ⟨p, hp, hpe⟩ := List.mem_map.1 hm
    simp only [Prod.mk.injEq] at hpe
    exact h2 p hp (K.inj _ _ (hpe.1.trans e))
  | some p =>
    obtain ⟨j, v0⟩ := p
    rw [hx] at hf
    obtain ⟨n, hn, h1, _, h3, _⟩ := aidx_some hx
    have hjn : j = n := by omega
    subst hjn
    have hkey : (es[j]?).map (·.key) = some (enc k) := by
      have := congrArg (·[j]?) hM
      simp only [List.getElem?_map, h1, Option.map_some, Array.getElem?_toList] at this
      cases he : es[j]? with
      | none => simp [he] at this
      | some x => simp [he] at this; simp [this.1]
    refine ⟨_, by simp [Instr.mapUpdate, run_underlying ht, MapKept.run_getObj_map hb, K.check, hf, hkey, K.stays, MapKept.run_setObj_map _ hb, Result.andThen]; rfl, ?_, hg _⟩
    refine ⟨_, _, (heap_set hb).1, stamped_modify hs j _ (fun _ _ => rfl) ?_, by rw [h3]; exact map_set_pairs hM rfl⟩
    intro x _ hxe
    rw [hxe] at hkey
    simpa using hkey.symm

theorem map_erase_pairs {α β : Type} (f : α → β) (l : List α) (n : Nat) : (l.eraseIdx n).map f = (l.map f).eraseIdx n := by
  induction l generalizing n with
  | nil => simp
  | cons a l ih => cases n <;> simp [ih]

theorem MapK.delete [DecidableEq κ] {P : Program} {t kt et ty : TypeId} (K : KeyOps P kt enc) (h : MapK enc w b M) (ht : P.underlying t = some (.map kt et)) (k : κ) (ats : Array TypeId) (ha : ats[0]? = some t) :
    ∃ w', (Builtin.delete_ ats ty #[.map (some b), enc k]).run P w = .ok (.tuple #[]) w' ∧ MapK enc w' b (adel M k) ∧ w.grownBy w' (some b) := by
  obtain ⟨es, clock, hb, hs, hM⟩ := h
  have hf := K.find k es.toList M w hM
  have hg : ∀ o, w.grownBy { w with heap := w.heap.setIfInBounds b o } (some b) := fun o => ⟨rfl, rfl, rfl, by simp, fun i _ hi => (heap_set hb).2 i (fun e => hi (by rw [e]))⟩
  cases hx : aidx M k 0 with
  | none =>
    rw [hx] at hf
    refine ⟨_, by simp [Builtin.delete_, ha, run_underlying ht, MapKept.run_getObj_map hb, K.check, hf, MapKept.run_setObj_map _ hb, Result.andThen]; rfl, ?_, hg _⟩
    exact ⟨_, _, (heap_set hb).1, hs, by rw [(aidx_none hx).2.2.2]; exact hM⟩
  | some p =>
    obtain ⟨j, v0⟩ := p
    rw [hx] at hf
    obtain ⟨n, hn, h1, _, _, h4⟩ := aidx_some hx
    have hjn : j = n := by omega
    subst hjn
    refine ⟨_, by simp [Builtin.delete_, ha, run_underlying ht, MapKept.run_getObj_map hb, K.check, hf, MapKept.run_setObj_map _ hb, Result.andThen]; rfl, ?_, hg _⟩
    refine ⟨_, _, (heap_set hb).1, stamped_erase hs j, ?_⟩
    rw [h4]
    have hl : j < es.size := by
      have h1' := (List.getElem?_eq_some_iff.1 h1).1
      have := congrArg List.length hM; simp at this; omega
    have : (es.eraseIdxIfInBounds j).toList = es.toList.eraseIdx j := by
      simp [Array.eraseIdxIfInBounds, hl]
    rw [this, map_erase_pairs, map_erase_pairs, hM]

/-! ### at the operation -/
variable {P : Program} {ops : Array Oper} {rest : List Oper} {o : Oper} {a : Act} {Q : Exit → Act → World → Prop}

theorem wpList_value (w : World) (hg : Region.wanted o (yielded ops a.tmps) = true) (v : Value) (w' : World) (hrun : (execOp a.eval o).run P w = .ok (.value v) w') (hK : wpList P ops Q rest (a.put o.dst v) w') : wpList P ops Q (o :: rest) a w := by
  refine BigFrame.wpList_want hg fun K' hK' => ?_
  unfold Oper.wp
  rw [hrun]
  exact hK' _ _ hK

theorem wpList_lookupK [DecidableEq κ] (w : World) (hg : Region.wanted o (yielded ops a.tmps) = true) (m x : Operand) (t : TypeId) (ok : Bool) (hop : o.op = Op.lookup t m x ok) {kt et : TypeId} (K : KeyOps P kt enc) (ht : P.underlying t = some (.map kt et))
    (b : Nat) (M : List (κ × Value)) (h : MapK enc w b M) (z : Value) (hz : (zeroValue et).run P w = .ok z w) (k : κ) (hm : a.eval m = .map (some b)) (hx : a.eval x = enc k)
    (hK : wpList P ops Q rest (a.put o.dst (if ok then .tuple #[(afind M k).getD z, .bool (afind M k).isSome] else (afind M k).getD z)) w) : wpList P ops Q (o :: rest) a w := by
  refine wpList_value w hg _ w ?_ hK
  have hr := h.lookup K ht hz k ok
  simp [execOp, hop, hm, hx, hr, Result.andThen]

theorem wpList_lookupK_some [DecidableEq κ] (w : World) (hg : Region.wanted o (yielded ops a.tmps) = true) (m x : Operand) (t : TypeId) (hop : o.op = Op.lookup t m x true) {kt et : TypeId} (K : KeyOps P kt enc) (ht : P.underlying t = some (.map kt et))
    (b : Nat) (M : List (κ × Value)) (h : MapK enc w b M) (z : Value) (hz : (zeroValue et).run P w = .ok z w) (k : κ) (v : Value) (hf : afind M k = some v) (hm : a.eval m = .map (some b)) (hx : a.eval x = enc k)
    (hK : wpList P ops Q rest (a.put o.dst (.tuple #[v, .bool true])) w) : wpList P ops Q (o :: rest) a w :=
  wpList_lookupK w hg m x t true hop K ht b M h z hz k hm hx (by rw [hf]; exact hK)
theorem wpList_lookupK_none [DecidableEq κ] (w : World) (hg : Region.wanted o (yielded ops a.tmps) = true) (m x : Operand) (t : TypeId) (hop : o.op = Op.lookup t m x true) {kt et : TypeId} (K : KeyOps P kt enc) (ht : P.underlying t = some (.map kt et))
    (b : Nat) (M : List (κ × Value)) (h : MapK enc w b M) (z : Value) (hz : (zeroValue et).run P w = .ok z w) (k : κ) (hf : afind M k = none) (hm : a.eval m = .map (some b)) (hx : a.eval x = enc k)
    (hK : wpList P ops Q rest (a.put o.dst (.tuple #[z, .bool false])) w) : wpList P ops Q (o :: rest) a w :=
  wpList_lookupK w hg m x t true hop K ht b M h z hz k hm hx (by rw [hf]; exact hK)
theorem wpList_lookupK_getD [DecidableEq κ] (w : World) (hg : Region.wanted o (yielded ops a.tmps) = true) (m x : Operand) (t : TypeId) (hop : o.op = Op.lookup t m x false) {kt et : TypeId} (K : KeyOps P kt enc) (ht : P.underlying t = some (.map kt et))
    (b : Nat) (M : List (κ × Value)) (h : MapK enc w b M) (z : Value) (hz : (zeroValue et).run P w = .ok z w) (k : κ) (v : Value) (hf : (afind M k).getD z = v) (hm : a.eval m = .map (some b)) (hx : a.eval x = enc k)
    (hK : wpList P ops Q rest (a.put o.dst v) w) : wpList P ops Q (o :: rest) a w :=
  wpList_lookupK w hg m x t false hop K ht b M h z hz k hm hx (by rw [hf]; exact hK)

theorem wpList_updateK [DecidableEq κ] (w : World) (hg : Region.wanted o (yielded ops a.tmps) = true) (m x v : Operand) (t : TypeId) (hop : o.op = Op.mapUpdate t m x v) {kt et : TypeId} (K : KeyOps P kt enc) (ht : P.underlying t = some (.map kt et))
    (b : Nat) (M : List (κ × Value)) (h : MapK enc w b M) (k : κ) (val : Value) (hm : a.eval m = .map (some b)) (hx : a.eval x = enc k) (hv : a.eval v = val)
    (hK : ∀ w', MapK enc w' b (aset M k val) → w.grownBy w' (some b) → wpList P ops Q rest (a.put o.dst undef) w') : wpList P ops Q (o :: rest) a w := by
  refine BigFrame.wpList_want hg fun K' hK' => ?_
  obtain ⟨w', hr, h1, h2⟩ := h.update K ht k val
  unfold Oper.wp
  simp [execOp, hop, hm, hx, hv, hr, Result.andThen]
  exact hK' _ _ (hK _ h1 h2)

theorem wpList_insertK [DecidableEq κ] (w : World) (hg : Region.wanted o (yielded ops a.tmps) = true) (m x v : Operand) (t : TypeId) (hop : o.op = Op.insert t m x v) {kt et : TypeId} (K : KeyOps P kt enc) (ht : P.underlying t = some (.map kt et))
    (b : Nat) (M : List (κ × Value)) (h : MapK enc w b M) (k : κ) (val : Value) (hm : a.eval m = .map (some b)) (hx : a.eval x = enc k) (hv : a.eval v = val)
    (hK : ∀ w', MapK enc w' b (aset M k val) → w.grownBy w' (some b) → wpList P ops Q rest (a.put o.dst undef) w') : wpList P ops Q (o :: rest) a w := by
  refine BigFrame.wpList_want hg fun K' hK' => ?_
  obtain ⟨w', hr, h1, h2⟩ := h.update K ht k val
  unfold Oper.wp
  simp [execOp, hop, hm, hx, hv, hr, Result.andThen]
  exact hK' _ _ (hK _ h1 h2)

theorem wpList_deleteK [DecidableEq κ] (w : World) (hg : Region.wanted o (yielded ops a.tmps) = true) (m x : Operand) (ats : Array TypeId) (hop : o.op = Op.call { callee := Callee.builtin Builtin.delete, args := #[m, x], argTypes := ats }) (t : TypeId) (hat : ats[0]? = some t) {kt et : TypeId} (K : KeyOps P kt enc) (ht : P.underlying t = some (.map kt et))
    (b : Nat) (M : List (κ × Value)) (h : MapK enc w b M) (k : κ) (hm : a.eval m = .map (some b)) (hx : a.eval x = enc k)
    (hK : ∀ w', MapK enc w' b (adel M k) → w.grownBy w' (some b) → wpList P ops Q rest (a.put o.dst (.tuple #[])) w') : wpList P ops Q (o :: rest) a w := by
  refine BigFrame.wpList_want hg fun K' hK' => ?_
  obtain ⟨w', hr, h1, h2⟩ := h.delete (ty := o.type) K ht k ats hat
  unfold Oper.wp
  simp [execOp, hop, hm, hx, resolve, invoke, builtin, hr, Result.andThen]
  exact hK' _ _ (hK _ h1 h2)

theorem MapK.length {es : Array MapEntry} {clock : Nat} (h : MapK enc w b M) (hb : w.heap[b]? = some (.map es clock)) : es.size = M.length := by
  obtain ⟨es', clock', hb', _, hM⟩ := h
  rw [hb] at hb'
  cases hb'
  have := congrArg List.length hM
  simpa using this

theorem wpList_lenK (w : World) (hg : Region.wanted o (yielded ops a.tmps) = true) (m : Operand) (ats : Array TypeId) (hop : o.op = Op.call { callee := Callee.builtin Builtin.len, args := #[m], argTypes := ats }) (t : TypeId) (hat : ats[0]? = some t) {kt et : TypeId} (ht : P.underlying t = some (.map kt et))
    (b : Nat) (M : List (κ × Value)) (h : MapK enc w b M) (hm : a.eval m = .map (some b))
    (hK : wpList P ops Q rest (a.put o.dst (.int .i64 M.length)) w) : wpList P ops Q (o :: rest) a w := by
  have h' := h
  obtain ⟨es, clock, hb, _, hM⟩ := h'
  refine wpList_value w hg _ w ?_ hK
  simp [execOp, hop, hm, resolve, invoke, builtin, Builtin.len_, hat, run_underlying ht, MapKept.run_getObj_map hb, goInt, h.length hb, Result.andThen]

theorem wpStill_lenK (w : World) {R : Act → Prop} (hg : Region.wanted o (yielded ops a.tmps) = true) (m : Operand) (ats : Array TypeId) (hop : o.op = Op.call { callee := Callee.builtin Builtin.len, args := #[m], argTypes := ats }) (t : TypeId) (hat : ats[0]? = some t) {kt et : TypeId} (ht : P.underlying t = some (.map kt et))
    (b : Nat) (M : List (κ × Value)) (h : MapK enc w b M) (hm : a.eval m = .map (some b))
    (hK : wpStill P ops w R rest (a.put o.dst (.int .i64 M.length))) : wpStill P ops w R (o :: rest) a := by
  have h' := h
  obtain ⟨es, clock, hb, _, hM⟩ := h'
  refine wpStill_value hg _ ?_ hK
  simp [execOp, hop, hm, resolve, invoke, builtin, Builtin.len_, hat, run_underlying ht, MapKept.run_getObj_map hb, goInt, h.length hb, Result.andThen]

theorem MapK.keep {F : Nat → Prop} {w' : World} (h : MapK enc w b M) (k : Keep F w w') (hn : ¬ F b) : MapK enc w' b M := h.same (k.block b h.lt hn)
theorem MapK.ne_block (h : MapK enc w b M) {g : Nat} {c : Array Value} {E : TypeId} {fr : Nat × Nat} (hg : w.heap[g]? = some (.cells c E fr)) : g ≠ b := by
  intro e; subst e
  obtain ⟨es, cl, hb, _⟩ := h
  rw [hb] at hg; cases hg
theorem MapK.ne_own (h : MapK enc w b M) {base : Nat} {e : TypeId} {s : Nat} {v : Value} {n : Nat} {xs : List Value} (ho : w.ownsRow base e s v n xs) : v.ownBlock ≠ some b := by
  rcases ho.2 with ⟨rfl, _⟩ | ⟨g, cap, cur, rfl, _, hh, _⟩
  · intro e; cases e
  · intro e; cases e; exact h.ne_block hh rfl
end map

theorem ownsRow_keep {F : Nat → Prop} {w w' : World} {base : Nat} {e : TypeId} {s : Nat} {v : Value} {n : Nat} {xs : List Value} (h : w.ownsRow base e s v n xs) (k : Keep F w w') (hn : ∀ g, v.ownBlock = some g → ¬ F g) : w'.ownsRow base e s v n xs := by
  refine ⟨h.1, ?_⟩
  rcases h.2 with h2 | ⟨g, cap, cur, rfl, hg, hh, r⟩
  · exact .inl h2
  · exact .inr ⟨g, cap, cur, rfl, hg, (k.block g (lt_of hh) (hn g rfl)).trans hh, r⟩
theorem own_ne_block {w : World} {base : Nat} {e : TypeId} {s : Nat} {v : Value} {n : Nat} {xs : List Value} (h : w.ownsRow base e s v n xs) {b : Nat} {c : Array Value} {E : TypeId} {fr : Nat × Nat} (hb : w.heap[b]? = some (.cells c E fr)) (hE : E ≠ e) : v.ownBlock ≠ some b := by
  rcases h.2 with ⟨rfl, _⟩ | ⟨g, cap, cur, rfl, _, hh, _⟩
  · intro e; cases e
  · intro e'; cases e'; rw [hh] at hb; cases hb; exact hE rfl
theorem own_lt {w : World} {base : Nat} {e : TypeId} {s : Nat} {v : Value} {n : Nat} {xs : List Value} (h : w.ownsRow base e s v n xs) {g : Nat} (hg : v.ownBlock = some g) : g < w.heap.size := (h.lt g hg).2
theorem own_block {w : World} {base : Nat} {e : TypeId} {s : Nat} {v : Value} {n : Nat} {xs : List Value} (h : w.ownsRow base e s v n xs) {g : Nat} (hg : v.ownBlock = some g) : ∃ c, w.heap[g]? = some (.cells c e (0, 0)) := by
  rcases h.2 with ⟨rfl, _⟩ | ⟨g', cap, cur, rfl, _, hh, _⟩
  · cases hg
  · cases hg; exact ⟨_, hh⟩
end Go.Xw
