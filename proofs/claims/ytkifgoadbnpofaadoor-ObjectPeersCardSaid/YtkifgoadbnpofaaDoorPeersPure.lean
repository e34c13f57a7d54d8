/- Two peers: what the calls of ObjectPeers make of them, as plain laws; the bits that it asks of. -/
import Derived.Test.YtkifgoadbnpofaaDoorSweepPure
namespace Go.Proofs.YtkifgoadbnpofaaDoor
open Go Go.RowKit

theorem bits_toInt (op : BinOp) (x y : Int) : bits op .i64 x y = (match op with
    | .and => BitVec.ofInt 64 x &&& BitVec.ofInt 64 y
    | .or => BitVec.ofInt 64 x ||| BitVec.ofInt 64 y
    | .xor => BitVec.ofInt 64 x ^^^ BitVec.ofInt 64 y
    | _ => BitVec.ofInt 64 x &&& ~~~BitVec.ofInt 64 y : BitVec 64).toInt := by
  have h : ∀ b : BitVec 64, IntKind.i64.wrap (b.toNat : Int) = b.toInt := by
    intro b
    have h1 := b.isLt
    rw [BitVec.toInt_eq_toNat_cond]
    rw [IntKind.wrap_i64]
    split <;> omega
  unfold bits
  exact h _
theorem ofInt_bits_or (x y : Int) : BitVec.ofInt 64 (bits .or .i64 x y) = BitVec.ofInt 64 x ||| BitVec.ofInt 64 y := by
  rw [bits_toInt]; exact BitVec.ofInt_toInt
theorem ofInt_bits_andNot (x y : Int) : BitVec.ofInt 64 (bits .andNot .i64 x y) = BitVec.ofInt 64 x &&& ~~~BitVec.ofInt 64 y := by
  rw [bits_toInt]; exact BitVec.ofInt_toInt

theorem shown (x s : Int) : bits .andNot .i64 (newShows x 6 (bits .andNot .i64 s 6)) 2 = newShows x 6 (bits .andNot .i64 s 6) ∧
    bits .or .i64 (newShows x 6 (bits .andNot .i64 s 6)) 4 ≠ newShows x 6 (bits .andNot .i64 s 6) := by
  have hB : BitVec.ofInt 64 (newShows x 6 (bits .andNot .i64 s 6)) = (BitVec.ofInt 64 x ||| BitVec.ofInt 64 s) &&& ~~~6#64 := by
    unfold newShows
    rw [ofInt_bits_or, ofInt_bits_andNot, ofInt_bits_andNot]
    show _ &&& ~~~6#64 ||| _ &&& ~~~6#64 = _
    rw [BitVec.and_comm (BitVec.ofInt 64 x), BitVec.and_comm (BitVec.ofInt 64 s), BitVec.and_comm (BitVec.ofInt 64 x ||| BitVec.ofInt 64 s), ← BitVec.and_or_distrib_left]
  have hI : newShows x 6 (bits .andNot .i64 s 6) = (BitVec.ofInt 64 (newShows x 6 (bits .andNot .i64 s 6))).toInt := by
    unfold newShows
    rw [ofInt_bits_or, bits_toInt]
  refine ⟨?_, ?_⟩
  · rw [bits_toInt]
    simp only
    rw [hI, BitVec.ofInt_toInt, hB]
    show ((_ &&& ~~~6#64) &&& ~~~2#64).toInt = _
    rw [BitVec.and_assoc, show (~~~6#64 &&& ~~~2#64 : BitVec 64) = ~~~6#64 by decide]
  · intro h
    have h2 := congrArg (BitVec.ofInt 64) h
    rw [ofInt_bits_or, hB] at h2
    have h3 := congrArg (fun b : BitVec 64 => b.getLsbD 2) h2
    simp at h3

def Q (k s1 s2 : Int) : Obs := { last := 2, most := 4, all := [(1, { kind := k, peer := 2, refs := 1, shows := s1, paired := true }), (2, { kind := k, peer := 1, refs := 1, shows := s2, paired := true })] }
def Q1 (b k s : Int) : Obs := { last := 2, most := 4, all := [(b, { kind := k, peer := 0, refs := 1, shows := s, paired := true })] }

theorem wr1 : wrap64 (0 + 1) = 1 := by decide +kernel
theorem wr2 : wrap64 2 = 2 := by decide +kernel
theorem wr0 : wrap64 0 = 0 := by decide +kernel
theorem wr00 : wrap64 (wrap64 (0 + 0) + 0) = 0 := by decide +kernel
theorem wr11 : wrap64 1 = 1 := by decide +kernel
theorem peers_make1 {k : Int} (h : ¬ (k < 1 ∨ 11 < k)) : Obs.make { most := 4 } k = ({ last := 1, most := 4, all := [(1, newHdr k)] }, 1, 0) := by
  unfold Obs.make
  rw [if_neg h, if_neg (by simp)]
  simp [wr11, Obs.set, put]
theorem peers_make2 {k : Int} (h : ¬ (k < 1 ∨ 11 < k)) : Obs.make { last := 1, most := 4, all := [(1, newHdr k)] } k = ({ last := 2, most := 4, all := [(1, newHdr k), (2, newHdr k)] }, 2, 0) := by
  unfold Obs.make
  rw [if_neg h, if_neg (by simp)]
  simp [wr2, Obs.set, put]
theorem peers_pair (k : Int) : Obs.pair { last := 2, most := 4, all := [(1, newHdr k), (2, newHdr k)] } 1 2 = (Q k (firstShows k) (firstShows k), 0) := by
  simp [Obs.pair, Obs.at, get, newHdr, Obs.set, put, Q]
theorem peers_show2 (k f x : Int) : (Obs.show (Q k f f) 2 6 x).1 = Q k f (newShows f 6 x) := by
  have ha : (Q k f f).at 2 = some { kind := k, peer := 1, refs := 1, shows := f, paired := true } := rfl
  unfold Obs.show
  rw [ha]
  simp only
  split
  · rename_i h; rw [h]
  · simp [Q, Obs.set, put]
theorem peers_show1 (k f x : Int) : (Obs.show (Q k f f) 1 6 x).1 = Q k (newShows f 6 x) f := by
  have ha : (Q k f f).at 1 = some { kind := k, peer := 2, refs := 1, shows := f, paired := true } := rfl
  unfold Obs.show
  rw [ha]
  simp only
  split
  · rename_i h; rw [h]
  · simp [Q, Obs.set, put]
theorem held0 (k p s : Int) (b : Bool) : Hdr.held { kind := k, peer := p, refs := 0, shows := s, paired := b } = false := by
  unfold Hdr.held
  rw [show wrap64 (wrap64 ((0 : Int) + 0) + 0) = 0 from wr00]
  rfl
theorem peers_unref1 {k f s t : Int} (h1 : newShows s 2 4 = t) (h2 : t ≠ s) : (Q k f s).unref [1] = (Q1 2 k t, [⟨1, true, 0⟩, ⟨2, false, t⟩], 0) := by
  have hsp : (Q k f s).spare [1] = 0 := by simp [Obs.spare, Obs.many, Obs.at, Q, get, count, put, Obs.short, wr11]
  have hd : (Q k f s).deref 1 = { last := 2, most := 4, all := [(1, { kind := k, peer := 2, refs := 0, shows := f, paired := true }), (2, { kind := k, peer := 1, refs := 1, shows := s, paired := true })] } := by
    simp [Obs.deref, Obs.at, Q, get, Obs.set, put, wr0]
  unfold Obs.unref
  rw [if_pos hsp]
  simp only [List.foldl_cons, List.foldl_nil, hd]
  rw [sweep_end (x := { kind := k, peer := 2, refs := 0, shows := f, paired := true }) (by simp [Obs.at, get]) (held0 _ _ _ _)]
  have he : Obs.endOne { last := 2, most := 4, all := [(1, { kind := k, peer := 2, refs := 0, shows := f, paired := true }), (2, { kind := k, peer := 1, refs := 1, shows := s, paired := true })] } 1 { kind := k, peer := 2, refs := 0, shows := f, paired := true } =
      (Q1 2 k t, [⟨1, true, 0⟩, ⟨2, false, t⟩], []) := by
    simp [Obs.endOne, Obs.unpeer, Obs.del, del, Obs.at, get, Obs.set, put, Obs.show, h1, h2, Obs.drops, Q1]
  rw [he]
  rfl
theorem peers_unref2 {k f s t : Int} (h1 : newShows s 2 4 = t) (h2 : t ≠ s) : (Q k s f).unref [2] = (Q1 1 k t, [⟨2, true, 0⟩, ⟨1, false, t⟩], 0) := by
  have hsp : (Q k s f).spare [2] = 0 := by simp [Obs.spare, Obs.many, Obs.at, Q, get, count, put, Obs.short, wr11]
  have hd : (Q k s f).deref 2 = { last := 2, most := 4, all := [(1, { kind := k, peer := 2, refs := 1, shows := s, paired := true }), (2, { kind := k, peer := 1, refs := 0, shows := f, paired := true })] } := by
    simp [Obs.deref, Obs.at, Q, get, Obs.set, put, wr0]
  unfold Obs.unref
  rw [if_pos hsp]
  simp only [List.foldl_cons, List.foldl_nil, hd]
  rw [sweep_end (x := { kind := k, peer := 1, refs := 0, shows := f, paired := true }) (by simp [Obs.at, get]) (held0 _ _ _ _)]
  have he : Obs.endOne { last := 2, most := 4, all := [(1, { kind := k, peer := 2, refs := 1, shows := s, paired := true }), (2, { kind := k, peer := 1, refs := 0, shows := f, paired := true })] } 2 { kind := k, peer := 1, refs := 0, shows := f, paired := true } =
      (Q1 1 k t, [⟨2, true, 0⟩, ⟨1, false, t⟩], []) := by
    simp [Obs.endOne, Obs.unpeer, Obs.del, del, Obs.at, get, Obs.set, put, Obs.show, h1, h2, Obs.drops, Q1]
  rw [he]
  rfl
theorem peers_last (b k s : Int) : (Q1 b k s).unref [b] = ({ last := 2, most := 4, all := [] }, [⟨b, true, 0⟩], 0) := by
  have hsp : (Q1 b k s).spare [b] = 0 := by simp [Obs.spare, Obs.many, Obs.at, Q1, get, count, put, Obs.short, wr11]
  have hd : (Q1 b k s).deref b = { last := 2, most := 4, all := [(b, { kind := k, peer := 0, refs := 0, shows := s, paired := true })] } := by
    simp [Obs.deref, Obs.at, Q1, get, Obs.set, put, wr0]
  unfold Obs.unref
  rw [if_pos hsp]
  simp only [List.foldl_cons, List.foldl_nil, hd]
  rw [sweep_end (x := { kind := k, peer := 0, refs := 0, shows := s, paired := true }) (by simp [Obs.at, get]) (held0 _ _ _ _)]
  have he : Obs.endOne { last := 2, most := 4, all := [(b, { kind := k, peer := 0, refs := 0, shows := s, paired := true })] } b { kind := k, peer := 0, refs := 0, shows := s, paired := true } =
      ({ last := 2, most := 4, all := [] }, [⟨b, true, 0⟩], []) := by
    simp [Obs.endOne, Obs.unpeer, Obs.del, del, Obs.at, get, Obs.drops]
  rw [he]
  rfl
end Go.Proofs.YtkifgoadbnpofaaDoor
