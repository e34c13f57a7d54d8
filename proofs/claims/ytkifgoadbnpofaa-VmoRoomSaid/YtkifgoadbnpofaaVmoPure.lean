/- What layer 8 (objects of memory) computes, as plain functions over lists. No memory. -/
import Derived.Test.YtkifgoadbnpofaaPoolE
import Derived.Test.YtkifgoadbnpofaaList
namespace Go.Proofs.Ytkifgoadbnpofaa
open Go Go.RowKit

structure Vobj where
  size : Int
  parent : Int
  frames : List (Int × Int)
  kids : List Int
  slice : Bool
  from_ : Int
  depth : Int
  dropped : Bool
  deriving DecidableEq
structure Vset where
  pool : Pool
  objs : List (Int × Vobj)
  most : Int
  last : Int
  deriving DecidableEq

def sizeUp (n : Int) : Int × Int := if n < 0 then (0, -10) else if 4294967296 < n then (0, -14) else (up64 n, 0)
/-- The pages of a range. -/
def touched (a n : Int) : List Int := (List.range (npages a n).toNat).map fun (k : Nat) => a / 64 + (k : Int)
/-- One page gets a frame of its own. -/
def commit1 (st : Pool × List (Int × Int)) (p : Int) : Pool × List (Int × Int) := match get st.2 p with
  | some f => ((st.1.own f).1, put st.2 p (st.1.own f).2.1)
  | none => (st.1.alloc.1, put st.2 p st.1.alloc.2.1)
/-- Does a page need a new frame? -/
def needs (q : Pool) (fr : List (Int × Int)) (p : Int) : Bool := match get fr p with
  | some f => decide (1 < q.users f)
  | none => true
/-- Bytes into pages that are committed. -/
def putBytes (q : Pool) (fr : List (Int × Int)) : Nat → Int → List Int → Pool
  | 0, _, _ => q
  | n + 1, a, l => if l.length = 0 then q else
    let k := min (l.length : Int) (64 - a % 64)
    putBytes (q.write ((get fr (a / 64)).getD 0) (a % 64) (l.take k.toNat)).1 fr n (a + k) (l.drop k.toNat)

namespace Vset
def at_ (S : Vset) (id : Int) : Option Vobj := get S.objs id
def set (S : Vset) (id : Int) (o : Vobj) : Vset := { S with objs := put S.objs id o }
def find (S : Vset) (id : Int) : Option Vobj := (S.at_ id).bind fun o => if o.dropped then none else some o
def add (S : Vset) (o : Vobj) : Vset × Int × Int :=
  if S.most ≤ S.objs.length then (S, 0, -4) else
    let id := wrap64 (S.last + 1)
    let S1 : Vset := { S with last := id, objs := put S.objs id o }
    match S1.at_ o.parent with
    | some up => (S1.set o.parent { up with kids := up.kids ++ [id] }, id, 0)
    | none => (S1, id, 0)
def create (S : Vset) (n : Int) : Vset × Int × Int :=
  if (sizeUp n).2 ≠ 0 then (S, 0, (sizeUp n).2) else S.add ⟨(sizeUp n).1, 0, [], [], false, 0, 0, false⟩
/-- The object that has the pages, and where the window begins there. -/
def base (S : Vset) : Nat → Int → Int → Int × Int
  | 0, id, fr => (id, fr)
  | n + 1, id, fr => match S.at_ id with
    | some o => if o.slice then S.base n o.parent (fr + o.from_) else (id, fr)
    | none => (id, fr)
def fuel : Nat := 20
/-- id of the object with the pages, offset, status. -/
def reach (S : Vset) (id a n : Int) : Int × Int × Int := match S.find id with
  | none => (0, 0, -25)
  | some o => if inside a n o.size then ((S.base fuel id 0).1, (S.base fuel id 0).2 + a, 0) else (0, 0, -14)
def commit (S : Vset) (id : Int) (list : List Int) : Vset × Int := match S.at_ id with
  | none => (S, 0)
  | some o => if wrap64 (S.pool.cap - S.pool.used) < (list.countP (needs S.pool o.frames) : Nat) then (S, -4)
    else ({ S with pool := (list.foldl commit1 (S.pool, o.frames)).1 }.set id { o with frames := (list.foldl commit1 (S.pool, o.frames)).2 }, 0)
def release (S : Vset) (id p : Int) : Vset := match S.at_ id with
  | none => S
  | some o => match get o.frames p with
    | none => S
    | some f => { S with pool := (S.pool.release f).1 }.set id { o with frames := del o.frames p }
/-- One byte of a page. -/
def page (q : Pool) (fr : List (Int × Int)) (p : Int) : List Int := match get fr p with
  | none => zeros 64
  | some f => (q.read f 0 64).1
/-- Bytes out of an object with pages. -/
def bytesOf (q : Pool) (fr : List (Int × Int)) : Nat → Int → Nat → List Int
  | 0, _, _ => []
  | m + 1, a, n => if n = 0 then [] else
    let k := min (n : Int) (64 - a % 64)
    (match get fr (a / 64) with
      | some f => (q.read f (a % 64) k).1
      | none => zeros k.toNat) ++ bytesOf q fr m (a + k) (n - k.toNat)
def read (S : Vset) (id a n : Int) : List Int × Int :=
  if (S.find id).isSome ∧ (n < 0 ∨ 4096 < n) then ([], -10)
  else if (S.reach id a n).2.2 ≠ 0 then ([], (S.reach id a n).2.2)
  else match S.at_ (S.reach id a n).1 with
    | none => ([], 0)
    | some o => (bytesOf S.pool o.frames (n.toNat + 1) (S.reach id a n).2.1 n.toNat, 0)
def write (S : Vset) (id a : Int) (l : List Int) : Vset × Int :=
  if (S.find id).isSome ∧ 4096 < l.length then (S, -10)
  else if (S.reach id a l.length).2.2 ≠ 0 then (S, (S.reach id a l.length).2.2)
  else
    let r := S.commit (S.reach id a l.length).1 (touched (S.reach id a l.length).2.1 l.length)
    if r.2 ≠ 0 then r
    else match r.1.at_ (S.reach id a l.length).1 with
      | none => (r.1, 0)
      | some o => ({ r.1 with pool := putBytes r.1.pool o.frames (l.length + 1) (S.reach id a l.length).2.1 l }, 0)
end Vset
end Go.Proofs.Ytkifgoadbnpofaa
