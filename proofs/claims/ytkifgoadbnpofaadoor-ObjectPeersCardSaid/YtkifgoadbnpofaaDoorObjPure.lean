/- What layer 18 (objects and who holds them) computes, as plain functions over lists. No program, no memory. -/
import Derived.Test.YtkifgoadbnpofaaDoorKit
namespace Go.Proofs.YtkifgoadbnpofaaDoor
open Go Go.RowKit

structure Hdr where
  kind : Int := 0
  peer : Int := 0
  refs : Int := 0
  pins : Int := 0
  carried : Int := 0
  carries : Int := 0
  shows : Int := 0
  paired : Bool := false
  bag : List Int := []
  deriving DecidableEq

structure Obs where
  last : Int := 0
  most : Int := 0
  all : List (Int × Hdr) := []
  deriving DecidableEq

structure Ev where
  obj : Int
  ended : Bool
  shows : Int
  deriving DecidableEq

def Hdr.held (h : Hdr) : Bool := decide (0 < wrap64 (wrap64 (h.refs + h.pins) + h.carried))
def firstShows (kind : Int) : Int := if kind = 4 ∨ kind = 5 ∨ kind = 6 then 2 else if kind = 11 then 32 else 0
def newHdr (kind : Int) : Hdr := { kind := kind, refs := 1, shows := firstShows kind }

def Obs.at (S : Obs) (id : Int) : Option Hdr := get S.all id
def Obs.set (S : Obs) (id : Int) (h : Hdr) : Obs := { S with all := put S.all id h }
def Obs.del (S : Obs) (id : Int) : Obs := { S with all := Proofs.YtkifgoadbnpofaaDoor.del S.all id }

def Obs.make (S : Obs) (kind : Int) : Obs × Int × Int :=
  if kind < 1 ∨ 11 < kind then (S, 0, -10)
  else if S.most ≤ S.all.length then (S, 0, -4)
  else ({ S with last := wrap64 (S.last + 1) }.set (wrap64 (S.last + 1)) (newHdr kind), wrap64 (S.last + 1), 0)

def Obs.pair (S : Obs) (a b : Int) : Obs × Int :=
  match S.at a, S.at b with
  | some x, some y =>
    if a = b then (S, -10)
    else if x.paired = true ∨ y.paired = true then (S, -20)
    else ((S.set a { x with peer := b, paired := true }).set b { y with peer := a, paired := true }, 0)
  | _, _ => (S, -25)

def Obs.ref (S : Obs) (id : Int) : Obs × Int :=
  match S.at id with
  | some x => (S.set id { x with refs := wrap64 (x.refs + 1) }, 0)
  | none => (S, -25)
def Obs.pin (S : Obs) (id : Int) : Obs × Int :=
  match S.at id with
  | some x => (S.set id { x with pins := wrap64 (x.pins + 1) }, 0)
  | none => (S, -25)

def count (n : List (Int × Int)) (id : Int) : List (Int × Int) := put n id (wrap64 ((get n id).getD 0 + 1))
def Obs.many (S : Obs) (ids : List Int) : Option (List (Int × Int)) :=
  if ids.all fun id => (S.at id).isSome then some (ids.foldl count []) else none
def Obs.short (S : Obs) (p : Int × Int) : Bool := match S.at p.1 with
  | some h => decide (h.refs < p.2)
  | none => false
def Obs.spare (S : Obs) (ids : List Int) : Int :=
  match S.many ids with
  | none => -25
  | some n => if n.any S.short then -20 else 0

def Obs.deref (S : Obs) (id : Int) : Obs := match S.at id with
  | some x => S.set id { x with refs := wrap64 (x.refs - 1) }
  | none => S

def newShows (old clear set : Int) : Int := bits .or .i64 (bits .andNot .i64 old clear) set
def Obs.show (S : Obs) (id clear set : Int) : Obs × List Ev :=
  match S.at id with
  | some x => if newShows x.shows clear set = x.shows then (S, []) else (S.set id { x with shows := newShows x.shows clear set }, [⟨id, false, newShows x.shows clear set⟩])
  | none => (S, [])

def Obs.drop1 (S : Obs) (c : Int) : Obs := match S.at c with
  | some y => S.set c { y with carried := wrap64 (y.carried - 1) }
  | none => S
def Obs.drops : Obs → List Int → Obs × List Int
  | S, [] => (S, [])
  | S, c :: r => let (S', l) := (S.drop1 c).drops r; (S', if (S.at c).isSome then c :: l else l)

def Obs.unpeer (S : Obs) (peer : Int) : Obs × List Ev :=
  match S.at peer with
  | some p => (S.set peer { p with peer := 0 }).show peer 2 4
  | none => (S, [])

/-- One object ends: what is left, what is told, what comes to the worklist. -/
def Obs.endOne (S : Obs) (id : Int) (h : Hdr) : Obs × List Ev × List Int :=
  let (S1, ev) := (S.del id).unpeer h.peer
  let (S2, more) := S1.drops h.bag
  (S2, ⟨id, true, 0⟩ :: ev, more)

def Obs.sweepF : Nat → Obs → List Int → Obs × List Ev
  | 0, S, _ => (S, [])
  | _ + 1, S, [] => (S, [])
  | n + 1, S, id :: rest => match S.at id with
    | none => Obs.sweepF n S rest
    | some h => if h.held then Obs.sweepF n S rest
      else let (S', ev, more) := S.endOne id h; let (S'', ev') := Obs.sweepF n S' (rest ++ more); (S'', ev ++ ev')

def weight (l : List (Int × Hdr)) : Nat := (l.map fun p => 1 + p.2.bag.length).sum
def Obs.sweep (S : Obs) (work : List Int) : Obs × List Ev := Obs.sweepF (work.length + weight S.all + 1) S work

def Obs.unref (S : Obs) (ids : List Int) : Obs × List Ev × Int :=
  if S.spare ids = 0 then let (S', ev) := (ids.foldl Obs.deref S).sweep ids; (S', ev, 0) else (S, [], S.spare ids)
def Obs.unpin (S : Obs) (id : Int) : Obs × List Ev × Int :=
  match S.at id with
  | none => (S, [], -25)
  | some x => if x.pins = 0 then (S, [], -20)
    else let (S', ev) := (S.set id { x with pins := wrap64 (x.pins - 1) }).sweep [id]; (S', ev, 0)

def Obs.into (S : Obs) (id : Int) : Obs := match S.at id with
  | some x => S.set id { x with refs := wrap64 (x.refs - 1), carried := wrap64 (x.carried + 1) }
  | none => S
def Obs.outOf (S : Obs) (id : Int) : Obs := match S.at id with
  | some x => S.set id { x with carried := wrap64 (x.carried - 1), refs := wrap64 (x.refs + 1) }
  | none => S
def Obs.bagTo (S : Obs) (holder : Int) (l : List Int) : Obs := match S.at holder with
  | some h => S.set holder { h with bag := l, carries := l.length }
  | none => S
def Obs.bagOf (S : Obs) (holder : Int) : List Int := match S.at holder with
  | some h => h.bag
  | none => []
def Obs.carry (S : Obs) (holder : Int) (ids : List Int) : Obs × Int :=
  match S.at holder with
  | none => (S, -25)
  | some _ =>
    if S.spare ids ≠ 0 then (S, S.spare ids)
    else if holder ∈ ids then (S, -10)
    else ((ids.foldl Obs.into S).bagTo holder ((ids.foldl Obs.into S).bagOf holder ++ ids), 0)
def takeAll : List Int → List Int → Option (List Int)
  | left, [] => some left
  | left, id :: r => if id ∈ left then takeAll (left.erase id) r else none
def Obs.hand (S : Obs) (holder : Int) (ids : List Int) : Obs × Int :=
  match S.at holder, S.many ids with
  | some h, some _ => match takeAll h.bag ids with
    | none => (S, -20)
    | some left => (ids.foldl Obs.outOf (S.bagTo holder left), 0)
  | _, _ => (S, -25)

/- get, put, del -/
section
variable {α : Type}
theorem get_put (L : List (Int × α)) (k x : Int) (v : α) : get (put L k v) x = if k = x then some v else get L x := by
  induction L with
  | nil => simp [put, get]
  | cons p L ih =>
    obtain ⟨a, u⟩ := p
    by_cases h : a = k
    · subst h
      by_cases h2 : a = x <;> simp [put, get, h2]
    · by_cases h2 : a = x
      · subst h2
        have : ¬ k = a := fun e => h e.symm
        simp [put, get, h, this]
      · simp [put, get, h, h2, ih]
theorem get_mem {L : List (Int × α)} {k : Int} {v : α} (h : get L k = some v) : (k, v) ∈ L := by
  induction L with
  | nil => simp [get] at h
  | cons p L ih =>
    obtain ⟨a, u⟩ := p
    by_cases h2 : a = k
    · simp [get, h2] at h; subst h; subst h2; exact List.mem_cons_self
    · simp [get, h2] at h; exact List.mem_cons_of_mem _ (ih h)
theorem get_none {L : List (Int × α)} {k : Int} : get L k = none ↔ k ∉ L.map (·.1) := by
  induction L with
  | nil => simp [get]
  | cons p L ih =>
    obtain ⟨a, u⟩ := p
    by_cases h2 : a = k
    · simp [get, h2]
    · have : ¬ k = a := fun e => h2 e.symm
      simp [get, h2, ih, this]
theorem get_of_mem {L : List (Int × α)} (hn : (L.map (·.1)).Nodup) {k : Int} {v : α} (h : (k, v) ∈ L) : get L k = some v := by
  induction L with
  | nil => cases h
  | cons p L ih =>
    obtain ⟨a, u⟩ := p
    simp only [List.map_cons, List.nodup_cons] at hn
    cases h with
    | head => simp [get]
    | tail _ h =>
      have : a ≠ k := by rintro rfl; exact hn.1 (List.mem_map.2 ⟨_, h, rfl⟩)
      simp [get, this, ih hn.2 h]
theorem keys_put_some (L : List (Int × α)) (k : Int) (v : α) (h : (get L k).isSome = true) : (put L k v).map (·.1) = L.map (·.1) := by
  induction L with
  | nil => simp [get] at h
  | cons p L ih =>
    obtain ⟨a, u⟩ := p
    by_cases h2 : a = k
    · simp [put, h2]
    · simp [get, h2] at h; simp [put, h2, ih h]
theorem put_of_none (L : List (Int × α)) (k : Int) (v : α) (h : get L k = none) : put L k v = L ++ [(k, v)] := by
  induction L with
  | nil => rfl
  | cons p L ih =>
    obtain ⟨a, u⟩ := p
    by_cases h2 : a = k
    · simp [get, h2] at h
    · simp [get, h2] at h; simp [put, h2, ih h]
theorem nodup_put {L : List (Int × α)} (hn : (L.map (·.1)).Nodup) (k : Int) (v : α) : ((put L k v).map (·.1)).Nodup := by
  cases h : get L k with
  | none =>
    rw [put_of_none _ _ _ h, List.map_append]
    refine List.nodup_append.2 ⟨hn, by simp, ?_⟩
    intro a ha b hb hab
    simp at hb; subst hb; subst hab
    exact get_none.1 h ha
  | some u => rw [keys_put_some _ _ _ (by simp [h])]; exact hn
theorem mem_put {L : List (Int × α)} {k : Int} {v : α} {p : Int × α} (hn : (L.map (·.1)).Nodup) : p ∈ put L k v ↔ p = (k, v) ∨ (p ∈ L ∧ p.1 ≠ k) := by
  constructor
  · intro h
    have hg := get_of_mem (nodup_put hn k v) (k := p.1) (v := p.2) h
    rw [get_put] at hg
    by_cases e : k = p.1
    · left; simp [e] at hg; rw [e, hg]
    · right; rw [if_neg e] at hg; exact ⟨get_mem hg, fun e' => e e'.symm⟩
  · rintro (rfl | ⟨h, hne⟩)
    · exact get_mem (by rw [get_put]; simp)
    · exact get_mem (by rw [get_put, if_neg (fun e => hne e.symm)]; exact get_of_mem hn h)
theorem map_put {β : Type} (f : Int → α → β) (L : List (Int × α)) (k : Int) (v : α) : (put L k v).map (fun p => (p.1, f p.1 p.2)) = put (L.map fun p => (p.1, f p.1 p.2)) k (f k v) := by
  induction L with
  | nil => rfl
  | cons p L ih =>
    obtain ⟨a, u⟩ := p
    by_cases h : a = k
    · subst h; simp [put]
    · simp [put, h, ih]
theorem get_map {β : Type} (f : Int → α → β) (L : List (Int × α)) (k : Int) : get (L.map fun p => (p.1, f p.1 p.2)) k = (get L k).map (f k) := by
  induction L with
  | nil => rfl
  | cons p L ih =>
    obtain ⟨a, u⟩ := p
    by_cases h : a = k
    · subst h; simp [get]
    · simp [get, h, ih]
theorem del_sublist (L : List (Int × α)) (k : Int) : (del L k).Sublist L := by
  induction L with
  | nil => exact List.Sublist.refl _
  | cons p L ih =>
    obtain ⟨a, u⟩ := p
    by_cases h : a = k
    · simp [del, h]
    · simp only [del, if_neg h]; exact ih.cons_cons _
theorem map_del {β : Type} (f : Int → α → β) (L : List (Int × α)) (k : Int) : (del L k).map (fun p => (p.1, f p.1 p.2)) = del (L.map fun p => (p.1, f p.1 p.2)) k := by
  induction L with
  | nil => rfl
  | cons p L ih =>
    obtain ⟨a, u⟩ := p
    by_cases h : a = k
    · subst h; simp [del]
    · simp [del, h, ih]
theorem get_del {L : List (Int × α)} (hn : (L.map (·.1)).Nodup) (k x : Int) : get (del L k) x = if k = x then none else get L x := by
  induction L with
  | nil => simp [del, get]
  | cons p L ih =>
    obtain ⟨a, u⟩ := p
    simp only [List.map_cons, List.nodup_cons] at hn
    by_cases h : a = k
    · subst h
      by_cases h2 : a = x
      · subst h2; simp [del, get_none.2 hn.1]
      · simp [del, get, h2]
    · by_cases h2 : a = x
      · subst h2
        have : ¬ k = a := fun e => h e.symm
        simp [del, get, h, this]
      · simp [del, get, h, h2, ih hn.2]
theorem nodup_del {L : List (Int × α)} (hn : (L.map (·.1)).Nodup) (k : Int) : ((del L k).map (·.1)).Nodup := hn.sublist ((del_sublist L k).map _)
theorem mem_del {L : List (Int × α)} (hn : (L.map (·.1)).Nodup) {k : Int} {p : Int × α} : p ∈ del L k ↔ p ∈ L ∧ p.1 ≠ k := by
  constructor
  · intro h
    refine ⟨(del_sublist L k).subset h, fun e => ?_⟩
    have := get_of_mem (nodup_del hn k) (k := p.1) (v := p.2) h
    rw [get_del hn, if_pos e.symm] at this
    cases this
  · rintro ⟨h, hne⟩
    exact get_mem (by rw [get_del hn, if_neg (fun e => hne e.symm)]; exact get_of_mem hn h)
theorem put_same {L : List (Int × α)} {k : Int} {v : α} (h : get L k = some v) : put L k v = L := by
  induction L with
  | nil => simp [get] at h
  | cons p L ih =>
    obtain ⟨a, u⟩ := p
    by_cases h2 : a = k
    · simp [get, h2] at h; simp [put, h2, h]
    · simp [get, h2] at h; simp [put, h2, ih h]
end
end Go.Proofs.YtkifgoadbnpofaaDoor
