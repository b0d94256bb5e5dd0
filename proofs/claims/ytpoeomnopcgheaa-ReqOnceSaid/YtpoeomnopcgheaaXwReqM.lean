/- The requests of layer 17 as plain data: what a table holds, and what each operation makes of it. -/
import Derived.Test.YtpoeomnopcgheaaXwMap
import Derived.Test.YtpoeomnopcgheaaXwFrame
namespace Go.Proofs.Xw
open Go.RowKit Go.Xw

/-- A request: its kind, and each place (0 open, 1 given, 2 lost) and its value. -/
structure Rq where
  kind : Int
  place : List Int
  vals : List Int
  deriving DecidableEq
structure Ans where
  id : Int
  code : Int
  vals : List Int
  deriving DecidableEq
structure Tab where
  room : Int
  R : List (Int × Rq)
  kept : List Ans

structure Rq.wf (r : Rq) : Prop where
  len : r.vals.length = r.place.length
  lo : 1 ≤ r.place.length
  hi : r.place.length ≤ 8
  code : ∀ x ∈ r.place, x = 0 ∨ x = 1 ∨ x = 2
  kind : r.kind = 1 ∨ r.kind = 2

def Rq.new (kind : Int) (n : Nat) : Rq := ⟨kind, List.replicate n 0, List.replicate n 0⟩
def ansOf (id : Int) (r : Rq) : Ans := if (2 : Int) ∈ r.place then ⟨id, 7, []⟩ else if r.kind = 1 then ⟨id, 0, r.vals⟩ else ⟨id, 0, []⟩
def Tab.settle (T : Tab) (id : Int) (r : Rq) : Tab :=
  if (0 : Int) ∈ r.place then { T with R := aset T.R id r } else { T with R := adel T.R id, kept := T.kept ++ [ansOf id r] }
def Tab.openC (T : Tab) (id kind count : Int) : Int :=
  if id < 1 ∨ (kind ≠ 1 ∧ kind ≠ 2) ∨ count < 1 ∨ 8 < count then 1
  else if (afind T.R id).isSome then 4
  else if (T.R.length : Int) = T.room then 2 else 0
def Tab.open' (T : Tab) (id kind count : Int) : Tab :=
  if T.openC id kind count = 0 then { T with R := T.R ++ [(id, Rq.new kind count.toNat)] } else T
def Tab.putC (T : Tab) (id place : Int) : Int :=
  match afind T.R id with
  | none => 3
  | some r => if place < 0 ∨ (r.place.length : Int) ≤ place then 1 else if r.place[place.toNat]?.getD 0 ≠ 0 then 4 else 0
def Rq.put (r : Rq) (i : Nat) (what value : Int) : Rq := { r with place := r.place.set i what, vals := r.vals.set i value }
def Tab.put (T : Tab) (id place what value : Int) : Tab :=
  if T.putC id place = 0 then match afind T.R id with
    | none => T
    | some r => T.settle id (r.put place.toNat what value)
  else T
def Tab.cancelC (T : Tab) (id : Int) : Int := if (afind T.R id).isSome then 0 else 3
def Tab.cancel (T : Tab) (id : Int) : Tab :=
  if (afind T.R id).isSome then { T with R := adel T.R id, kept := T.kept ++ [⟨id, 8, []⟩] } else T
def Tab.take (T : Tab) : Tab := { T with kept := [] }
def Tab.touched (T : Tab) (id : Int) : Bool :=
  match afind T.R id with
  | none => false
  | some r => decide (∃ x ∈ r.place, x ≠ 0)
def Tab.kind (T : Tab) (id : Int) : Int :=
  match afind T.R id with
  | none => 0
  | some r => r.kind
def Tab.pending (T : Tab) : List Int := (T.R.map (·.1)).mergeSort (fun x y => decide (x ≤ y))

structure Tab.wf (T : Tab) : Prop where
  req : ∀ p ∈ T.R, p.2.wf
  pos : ∀ p ∈ T.R, 1 ≤ p.1
  nodup : (T.R.map (·.1)).Nodup
  room : T.R.length ≤ T.room

theorem Rq.new_wf {kind : Int} {n : Nat} (hk : kind = 1 ∨ kind = 2) (h1 : 1 ≤ n) (h8 : n ≤ 8) : (Rq.new kind n).wf :=
  ⟨by simp [Rq.new], by simp [Rq.new]; omega, by simp [Rq.new]; omega, by intro x hx; simp [Rq.new] at hx; exact .inl hx.2, hk⟩
theorem Rq.wf.put {r : Rq} (h : r.wf) (i : Nat) {what : Int} (hw : what = 1 ∨ what = 2) (value : Int) : (r.put i what value).wf :=
  ⟨by simp [Rq.put, h.len], by simp [Rq.put]; exact h.lo, by simp [Rq.put]; exact h.hi, by
    intro x hx
    rcases List.mem_or_eq_of_mem_set hx with hx | hx
    · exact h.code x hx
    · rw [hx]; omega, h.kind⟩
theorem Tab.wf.adel {T : Tab} (h : T.wf) (id : Int) (k : List Ans) : ({ T with R := adel T.R id, kept := k } : Tab).wf :=
  ⟨fun p hp => h.req p (mem_adel hp), fun p hp => h.pos p (mem_adel hp), by
    show ((Go.Xw.adel T.R id).map (·.1)).Nodup
    rw [adel_keys]; exact h.nodup.erase _, by
    show ((Go.Xw.adel T.R id).length : Int) ≤ T.room
    have e : (Go.Xw.adel T.R id).length = ((T.R.map (·.1)).erase id).length := by rw [← adel_keys]; simp
    have := List.length_erase_le (a := id) (l := T.R.map (·.1))
    have := h.room
    simp at *; omega⟩
theorem Tab.wf.settle {T : Tab} (h : T.wf) {id : Int} {r u : Rq} (hr : r.wf) (hf : afind T.R id = some u) : (T.settle id r).wf := by
  unfold Tab.settle
  split
  · have hk := aset_keys (v := r) hf
    refine ⟨fun p hp => ?_, fun p hp => ?_, by show ((aset T.R id r).map (·.1)).Nodup; rw [hk]; exact h.nodup, ?_⟩
    · rcases mem_aset hp with rfl | hp
      · exact hr
      · exact h.req p hp
    · rcases mem_aset hp with rfl | hp
      · exact h.pos (id, u) (mem_of_afind hf)
      · exact h.pos p hp
    · show ((aset T.R id r).length : Int) ≤ T.room
      have := congrArg List.length hk
      have := h.room
      simp at *; omega
  · exact h.adel id _
theorem Tab.wf.open' {T : Tab} (h : T.wf) (id kind count : Int) : (T.open' id kind count).wf := by
  unfold Tab.open'
  split
  · rename_i hc
    unfold Tab.openC at hc
    split at hc
    · cases hc
    · rename_i h1
      split at hc
      · cases hc
      · rename_i h2
        split at hc
        · cases hc
        · rename_i h3
          have hn : afind T.R id = none := by simpa using h2
          refine ⟨fun p hp => ?_, fun p hp => ?_, ?_, ?_⟩
          · rcases List.mem_append.1 hp with hp | hp
            · exact h.req p hp
            · simp at hp; subst hp; exact Rq.new_wf (by omega) (by omega) (by omega)
          · rcases List.mem_append.1 hp with hp | hp
            · exact h.pos p hp
            · simp at hp; subst hp; show 1 ≤ id; omega
          · show ((T.R ++ [(id, Rq.new kind count.toNat)]).map (·.1)).Nodup
            rw [List.map_append, List.nodup_append]
            refine ⟨h.nodup, by simp, ?_⟩
            intro a ha b hb e
            simp at hb
            subst hb; subst e
            exact afind_none_iff.1 hn ha
          · have := h.room
            show ((T.R ++ [(id, Rq.new kind count.toNat)]).length : Int) ≤ T.room
            simp; omega
  · exact h
theorem Tab.wf.put {T : Tab} (h : T.wf) (id place : Int) {what : Int} (hw : what = 1 ∨ what = 2) (value : Int) : (T.put id place what value).wf := by
  unfold Tab.put
  split
  · split
    · exact h
    · rename_i r hr
      exact h.settle ((h.req (id, r) (mem_of_afind hr)).put _ hw value) hr
  · exact h
theorem Tab.wf.cancel {T : Tab} (h : T.wf) (id : Int) : (T.cancel id).wf := by
  unfold Tab.cancel
  split
  · exact h.adel id _
  · exact h
theorem Tab.wf.take {T : Tab} (h : T.wf) : T.take.wf := ⟨h.req, h.pos, h.nodup, h.room⟩
end Go.Proofs.Xw
