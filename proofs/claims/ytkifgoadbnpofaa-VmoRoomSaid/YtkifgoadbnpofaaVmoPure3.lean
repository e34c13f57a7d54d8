/- What layer 8 computes, further: committing, decommitting, zeroing. No memory. -/
import Derived.Test.YtkifgoadbnpofaaVmoPure
namespace Go.Proofs.Ytkifgoadbnpofaa
open Go Go.RowKit

/-- The pages of a range that it holds whole, and those that it holds in part. -/
def wholes (fr : List (Int × Int)) (a n : Int) (l : List Int) : List Int := l.filter fun p => (get fr p).isSome && decide (a ≤ p * 64 ∧ p * 64 + 64 ≤ a + n)
def parts (fr : List (Int × Int)) (a n : Int) (l : List Int) : List Int := l.filter fun p => (get fr p).isSome && !decide (a ≤ p * 64 ∧ p * 64 + 64 ≤ a + n)
/-- How much room a page gives or takes. -/
def roomOf (q : Pool) (fr : List (Int × Int)) (a n p : Int) : Int := match get fr p with
  | none => 0
  | some f => if a ≤ p * 64 ∧ p * 64 + 64 ≤ a + n then (if q.users f = 1 then 1 else 0) else (if 1 < q.users f then -1 else 0)
/-- Zeros into one page of a range. -/
def zero1 (fr : List (Int × Int)) (a n : Int) (q : Pool) (p : Int) : Pool :=
  putBytes q fr ((min (a + n) ((p + 1) * 64) - max a (p * 64)).toNat + 1) (max a (p * 64)) (zeros (min (a + n) ((p + 1) * 64) - max a (p * 64)).toNat)
namespace Vset
def releases (S : Vset) (id : Int) (l : List Int) : Vset := l.foldl (fun S p => S.release id p) S
def zero (S : Vset) (id a n : Int) : Vset × Int := match S.at_ id with
  | none => (S, 0)
  | some o =>
    if ((touched a n).foldl (fun r p => r + roomOf S.pool o.frames a n p) (S.pool.cap - S.pool.used)) < 0 then (S, -4) else
      let r := (S.releases id (wholes o.frames a n (touched a n))).commit id (parts o.frames a n (touched a n))
      if r.2 ≠ 0 then r else match r.1.at_ id with
        | none => (r.1, 0)
        | some o' => ({ r.1 with pool := (parts o.frames a n (touched a n)).foldl (zero1 o'.frames a n) r.1.pool }, 0)
def op (S : Vset) (id op a n : Int) : Vset × Int := match S.find id with
  | none => (S, -25)
  | some _ =>
    if op < 1 ∨ 3 < op ∨ (op ≠ 3 ∧ (a % 64 ≠ 0 ∨ n % 64 ≠ 0)) then (S, -10)
    else if (S.reach id a n).2.2 ≠ 0 then (S, (S.reach id a n).2.2)
    else if 4096 < n then (S, -10)
    else if op = 1 then S.commit (S.reach id a n).1 (touched (S.reach id a n).2.1 n)
    else if op = 3 then S.zero (S.reach id a n).1 (S.reach id a n).2.1 n
    else (S.releases (S.reach id a n).1 (touched (S.reach id a n).2.1 n), 0)
theorem release_at {S : Vset} {id : Int} {o : Vobj} (h : S.at_ id = some o) (p : Int) : ∃ fr, (S.release id p).at_ id = some { o with frames := fr } := by
  unfold release
  rw [h]
  simp only
  cases get o.frames p with
  | none => exact ⟨o.frames, h⟩
  | some f =>
    refine ⟨del o.frames p, ?_⟩
    show get (put S.objs id _) id = _
    rw [get_put, if_pos rfl]
end Vset
end Go.Proofs.Ytkifgoadbnpofaa
