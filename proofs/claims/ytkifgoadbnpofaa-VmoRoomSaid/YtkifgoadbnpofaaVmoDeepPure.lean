/- What the law VmoDeep comes to, without memory. -/
import Derived.Test.YtkifgoadbnpofaaVmoGood3
namespace Go.Proofs.Ytkifgoadbnpofaa
open Go Go.RowKit

theorem Has.base0 {S : Vset} {id size d : Int} (h : Has S id size false d) : S.base Vset.fuel id 0 = (id, 0) := by
  obtain ⟨o, h1, _, h3, _⟩ := h
  exact base_flat (vreach_facts h1).1 h3 0 _
theorem info_size {S : Vset} {id size d : Int} {sl : Bool} (h : Has S id size sl d) : ∃ c1 c2 c3 c4 c5, infoCells (S.at_ id) = #[i64 size, i64 c1, i64 c2, i64 c3, .bool c4, .bool c5] ∧ (S.at_ id).isSome = true := by
  obtain ⟨o, h1, h2, _⟩ := h
  rw [(vreach_facts h1).1]
  subst h2
  exact ⟨_, _, _, _, _, rfl, rfl⟩
structure Deep (k : Nat) (S : Vset) : Prop where
  good : Good S
  last : S.last = 1 + (k : Int)
  most : S.most = 40
  len : S.objs.length = k + 1
  cap : S.pool.cap = 40
  used : S.pool.used = 0
  top : Has S (1 + (k : Int)) (1920 - 64 * (k : Int)) (decide (0 < k)) k
  first : Has S 1 1920 false 0
  base : S.base Vset.fuel (1 + (k : Int)) 0 = (1, 64 * (k : Int))
theorem deep_start {S0 : Vset} (h : S0 = ⟨⟨[], 40, 0⟩, [], 40, 0⟩) (G : Good S0) : ∃ S, S0.create 1920 = (S, 1, 0) ∧ Deep 0 S := by
  subst h
  obtain ⟨S, e, G', M, hh, _⟩ := G.create (n := 1920) (by decide) (by decide) (by decide) (by decide)
  have e1 : (⟨⟨[], 40, 0⟩, [], 40, 0⟩ : Vset).last + 1 = 1 := rfl
  rw [e1] at e M hh
  have e2 : up64 1920 = 1920 := by decide
  rw [e2] at hh
  exact ⟨S, e, G', M.last, M.most, M.len, by rw [M.pool], by rw [M.pool], hh, hh, hh.base0⟩
theorem Deep.next {k : Nat} {S : Vset} (D : Deep k S) (hk : k < 16) : ∃ S', S.slice (1 + (k : Int)) 64 (1920 - 64 * (k : Int) - 64) = (S', 1 + ((k + 1 : Nat) : Int), 0) ∧ Deep (k + 1) S' := by
  have hfull : ¬ S.most ≤ S.objs.length := by rw [D.most, D.len]; omega
  have hl : S.last < 4611686018427387904 := by rw [D.last]; omega
  obtain ⟨S', o, e, G', M, hh, hb, _⟩ := D.good.sliced hl hfull (a := 64) (n := 1920 - 64 * (k : Int) - 64) D.top (by omega) (by omega) (by omega) (by omega) (by omega) (by omega)
  have hid : S.last + 1 = 1 + ((k + 1 : Nat) : Int) := by rw [D.last]; push_cast; omega
  obtain ⟨_, _, hne⟩ := D.good.freshId hl
  rw [hid] at e M hh hb hne
  have hs : 1920 - 64 * (k : Int) - 64 = 1920 - 64 * ((k + 1 : Nat) : Int) := by push_cast; omega
  refine ⟨S', e, G', M.last, M.most.trans D.most, by rw [M.len, D.len], by rw [M.pool, D.cap], by rw [M.pool, D.used], ?_, M.keepHas hne D.first, ?_⟩
  · rw [hs] at hh
    have : decide (0 < k + 1) = true := by simp
    rw [this]
    have e5 : (k : Int) + 1 = ((k + 1 : Nat) : Int) := by push_cast; rfl
    rw [e5] at hh
    exact hh
  · rw [hb, D.base]
    congr 1
theorem Deep.stop {S : Vset} (D : Deep 16 S) : S.slice (1 + ((16 : Nat) : Int)) 64 (1920 - 64 * ((16 : Nat) : Int) - 64) = (S, 0, -2) := by
  obtain ⟨o, h1, h2, _, h4⟩ := D.top
  have hat := (vreach_facts h1).1
  unfold Vset.slice
  have hw : S.window (1 + ((16 : Nat) : Int)) 64 (1920 - 64 * ((16 : Nat) : Int) - 64) = 0 := by
    unfold Vset.window
    rw [h1]
    simp only
    rw [if_neg (by omega), if_pos (by simp [inside]; omega)]
  rw [if_neg (by rw [hw]; simp), hat]
  simp only
  rw [if_pos (by omega)]
theorem Deep.end_ {k : Nat} {S : Vset} (D : Deep k S) (hk : 0 < k) (hk2 : k ≤ 16) {l : List Int} (hl : l.length ≤ 64) :
    ∃ S', S.write (1 + (k : Int)) 0 l = (S', 0) ∧ Good S' ∧ S'.last < 4611686018427387904 ∧ S'.read 1 (64 * (k : Int)) l.length = (l, 0) ∧ S'.snapshot (1 + (k : Int)) 0 64 = (S', 0, -2) := by
  obtain ⟨o, h1, h2, h3, h4⟩ := D.top
  have hw := S.want_le (1 + (k : Int)) 0 l.length
  have hnp : npages ((S.base Vset.fuel (1 + (k : Int)) 0).2 + 0) l.length ≤ 2 := by rw [D.base]; unfold npages; split <;> omega
  rcases D.good.write (id := 1 + (k : Int)) (a := 0) (l := l) h1 (by omega) (by simp [inside]; omega) with ⟨h, _⟩ | ⟨_, hs, Gv, hv⟩
  · rw [D.cap, D.used] at h
    omega
  · refine ⟨(S.write (1 + (k : Int)) 0 l).1, Prod.ext rfl hs, Gv.good, by rw [Gv.alike.last, D.last]; omega, ?_, ?_⟩
    · have hf := Gv.alike.keepHas D.first
      obtain ⟨q, q1, q2, q3, q4⟩ := hf
      rw [Gv.good.read q1 (by omega) (by omega) (by simp [inside]; omega)]
      congr 1
      unfold Vset.bytes
      apply List.ext_getElem
      · simp
      · intro i i1 i2
        simp only [List.getElem_map, List.getElem_range]
        rw [hv _ _ (by rw [D.first.base0]; simp only; omega), D.first.base0, D.base]
        simp only
        rw [if_pos (by refine ⟨trivial, ?_, ?_⟩ <;> omega)]
        rw [show ((0 : Int) + (64 * (k : Int) + (i : Int)) - (64 * (k : Int) + 0)).toNat = i by omega]
        simp [List.getD_eq_getElem?_getD, List.getElem?_eq_getElem i2]
    · have ht := Gv.alike.keepHas D.top
      obtain ⟨q, q1, q2, q3, q4⟩ := ht
      have hat := (vreach_facts q1).1
      unfold Vset.snapshot
      have hw : (S.write (1 + (k : Int)) 0 l).1.window (1 + (k : Int)) 0 64 = 0 := by
        unfold Vset.window
        rw [q1]
        simp only
        rw [if_neg (by omega), if_pos (by simp [inside]; omega)]
      rw [if_neg (by simp [hw]), hat]
      simp only
      rw [if_pos (by rw [q3]; simp; omega)]
end Go.Proofs.Ytkifgoadbnpofaa
