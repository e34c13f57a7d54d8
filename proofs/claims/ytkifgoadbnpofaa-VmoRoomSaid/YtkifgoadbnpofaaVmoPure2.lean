/- What layer 8 computes, further: windows, slices, snapshots, resizing, ops, drops. No memory. -/
import Derived.Test.YtkifgoadbnpofaaVmoPure
namespace Go.Proofs.Ytkifgoadbnpofaa
open Go Go.RowKit

/-- One page of a parent goes to a snapshot, as its i-th. -/
def share1 (fr : List (Int × Int)) (st : Pool × List (Int × Int)) (p : Int × Int) : Pool × List (Int × Int) := match get fr p.2 with
  | none => st
  | some f => ((st.1.share f).1, put st.2 p.1 f)
/-- The pages of a list, numbered. -/
def numbered (l : List Int) : List (Int × Int) := (List.range l.length).map fun (k : Nat) => ((k : Int), l.getD k 0)
namespace Vset
def window (S : Vset) (id a n : Int) : Int := match S.find id with
  | none => -25
  | some o => if a < 0 ∨ n < 0 ∨ a % 64 ≠ 0 ∨ n % 64 ≠ 0 then -10 else if inside a n o.size then 0 else -14
def slice (S : Vset) (id a n : Int) : Vset × Int × Int :=
  if S.window id a n ≠ 0 then (S, 0, S.window id a n) else match S.at_ id with
    | none => (S, 0, 0)
    | some o => if 16 ≤ o.depth then (S, 0, -2) else S.add ⟨n, id, [], [], true, a, o.depth + 1, false⟩
def snapshot (S : Vset) (id a n : Int) : Vset × Int × Int :=
  if S.window id a n ≠ 0 then (S, 0, S.window id a n) else match S.at_ id with
    | none => (S, 0, 0)
    | some o => if o.slice then (S, 0, -2) else if 4096 < n then (S, 0, -10) else
      let r := S.add ⟨n, id, [], [], false, 0, 0, false⟩
      if r.2.2 ≠ 0 then (r.1, 0, r.2.2) else
        let st := (numbered (touched a n)).foldl (share1 o.frames) (r.1.pool, [])
        (({ r.1 with pool := st.1 } : Vset).set r.2.1 ⟨n, id, st.2, [], false, 0, 0, false⟩, r.2.1, 0)
end Vset
end Go.Proofs.Ytkifgoadbnpofaa
