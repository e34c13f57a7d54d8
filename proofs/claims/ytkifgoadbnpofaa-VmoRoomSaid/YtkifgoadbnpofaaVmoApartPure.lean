/- What the law VmoApart comes to, without memory; reading and writing in one line each. -/
import Derived.Test.YtkifgoadbnpofaaVmoDeepPure
namespace Go.Proofs.Ytkifgoadbnpofaa
open Go Go.RowKit

def splice (l : List Int) (a : Nat) (m : List Int) : List Int := l.take a ++ m ++ l.drop (a + m.length)
theorem splice_len {l m : List Int} {a : Nat} (h : a + m.length ≤ l.length) : (splice l a m).length = l.length := by simp [splice]; omega
theorem splice_getD {l m : List Int} {a i : Nat} (h : a + m.length ≤ l.length) : (splice l a m).getD i 0 = if a ≤ i ∧ i < a + m.length then m.getD (i - a) 0 else l.getD i 0 := by
  unfold splice
  simp only [List.getD_eq_getElem?_getD]
  by_cases h1 : i < a
  · rw [if_neg (by omega), List.append_assoc, List.getElem?_append_left (by simp; omega), List.getElem?_take_of_lt h1]
  · by_cases h2 : i < a + m.length
    · rw [if_pos (by omega), List.append_assoc, List.getElem?_append_right (by simp; omega), List.getElem?_append_left (by simp; omega)]
      congr 2
      simp; omega
    · rw [if_neg (by omega), List.getElem?_append_right (by simp; omega), List.getElem?_drop]
      congr 2
      simp; omega
section
variable {S : Vset}
theorem bytes_is {id a : Int} {n : Nat} {l : List Int} (hl : l.length = n) (h : ∀ i : Nat, i < n → S.view id (a + (i : Int)) = l.getD i 0) : S.bytes id a n = l := by
  unfold Vset.bytes
  apply List.ext_getElem
  · simp [hl]
  · intro i h1 h2
    simp only [List.getElem_map, List.getElem_range]
    rw [h i (by omega)]
    simp [List.getD_eq_getElem?_getD, List.getElem?_eq_getElem h2]
theorem bytes_getD {id a : Int} {n i : Nat} (h : i < n) : (S.bytes id a n).getD i 0 = S.view id (a + (i : Int)) := by
  unfold Vset.bytes
  simp [List.getD_eq_getElem?_getD, h]
theorem Good.readOk (G : Good S) {id a size d : Int} {n : Nat} {sl : Bool} (h : Has S id size sl d) (h0 : 0 ≤ a) (h1 : n ≤ 4096) (hin : a + n ≤ size) : S.read id a n = (S.bytes id a n, 0) := by
  obtain ⟨o, q1, q2, _⟩ := h
  rw [G.read q1 (by omega) (by omega) (by simp [inside]; omega)]
  rfl
theorem Good.writeOk (G : Good S) {id a size d : Int} {l : List Int} {sl : Bool} (h : Has S id size sl d) (h0 : 0 ≤ a) (h1 : l.length ≤ 4096) (hin : a + l.length ≤ size) (hroom : S.pool.used + ((l.length / 64 + 2 : Nat) : Int) ≤ S.pool.cap) :
    ∃ S', S.write id a l = (S', 0) ∧ Gave S S' (l.length / 64 + 2) ∧ ∀ k x, 0 ≤ (S.base Vset.fuel k 0).2 + x → S'.view k x =
        if (S.base Vset.fuel k 0).1 = (S.base Vset.fuel id 0).1 ∧ (S.base Vset.fuel id 0).2 + a ≤ (S.base Vset.fuel k 0).2 + x ∧ (S.base Vset.fuel k 0).2 + x < (S.base Vset.fuel id 0).2 + a + l.length
        then l.getD ((S.base Vset.fuel k 0).2 + x - ((S.base Vset.fuel id 0).2 + a)).toNat 0 else S.view k x := by
  obtain ⟨o, q1, q2, _⟩ := h
  have hw := S.want_le id a l.length
  have hnp : (npages ((S.base Vset.fuel id 0).2 + a) l.length).toNat ≤ l.length / 64 + 2 := by unfold npages; split <;> omega
  rcases G.write (id := id) (a := a) (l := l) q1 h1 (by simp [inside]; omega) with ⟨h, _⟩ | ⟨_, hs, Gv, hv⟩
  · omega
  · exact ⟨_, Prod.ext rfl hs, ⟨Gv.good, Gv.alike, Gv.cap, Gv.used0, Int.le_trans Gv.used1 (by omega)⟩, hv⟩
end
structure Apart (first mine its all : List Int) (a : Nat) (S1 S2 S3 S4 S5 S6 S7 : Vset) : Prop where
  len : all.length = 256
  c1 : (⟨⟨[], 64, 0⟩, [], 8, 0⟩ : Vset).create 256 = (S1, 1, 0)
  g1 : Good S1
  c2 : S1.write 1 0 first = (S2, 0)
  g2 : Good S2
  l2 : S2.last < 4611686018427387904
  r2 : S2.read 1 0 256 = (all, 0)
  c3 : S2.snapshot 1 0 256 = (S3, 2, 0)
  g3 : Good S3
  l3 : S3.last < 4611686018427387904
  c4 : S3.slice 1 64 192 = (S4, 3, 0)
  g4 : Good S4
  c5 : S4.write 1 a mine = (S5, 0)
  g5 : Good S5
  r5 : S5.read 2 0 256 = (all, 0)
  c6 : S5.write 2 a its = (S6, 0)
  g6 : Good S6
  r61 : S6.read 1 0 256 = (splice all a mine, 0)
  r63 : S6.read 3 0 192 = ((splice all a mine).drop 64, 0)
  r62 : S6.read 2 0 256 = (splice all a its, 0)
  c7 : S6.write 3 3 its = (S7, 0)
  g7 : Good S7
  r7 : S7.read 1 67 its.length = (its, 0)
theorem apart_pure (G0 : Good ⟨⟨[], 64, 0⟩, [], 8, 0⟩) (first mine its : List Int) (a : Nat) (hf : first.length ≤ 256) (hm : mine.length ≤ 100) (hi : its.length ≤ 100) (ha : a ≤ 150) :
    ∃ all S1 S2 S3 S4 S5 S6 S7, Apart first mine its all a S1 S2 S3 S4 S5 S6 S7 := by
  obtain ⟨S1, c1, G1, M1, h1, v1⟩ := G0.create (n := 256) (by decide) (by decide) (by decide) (by decide)
  rw [show (⟨⟨[], 64, 0⟩, [], 8, 0⟩ : Vset).last + 1 = 1 from rfl] at c1 M1 h1
  rw [show up64 256 = 256 by decide] at h1
  have p1 : S1.pool.cap = 64 ∧ S1.pool.used = 0 ∧ S1.last = 1 ∧ S1.most = 8 ∧ S1.objs.length = 1 := ⟨by rw [M1.pool], by rw [M1.pool], M1.last, M1.most, M1.len⟩
  obtain ⟨S2, c2, W2, v2⟩ := G1.writeOk (a := 0) (l := first) h1 (by omega) (by omega) (by omega) (by omega)
  have h2 := W2.alike.keepHas h1
  have G2 := W2.good
  have p2 : S2.pool.cap = 64 ∧ S2.pool.used ≤ 6 ∧ S2.last = 1 ∧ S2.most = 8 ∧ S2.objs.length = 1 := ⟨by rw [W2.cap, p1.1], by have := W2.used1; omega, by rw [W2.alike.last, p1.2.2.1], by rw [W2.alike.most, p1.2.2.2.1], by rw [W2.alike.len, p1.2.2.2.2]⟩
  have r2 := G2.readOk (a := 0) (n := 256) h2 (by omega) (by omega) (by omega)
  obtain ⟨_, _, ne2⟩ := G2.freshId (by omega)
  obtain ⟨S3, T3, o3, c3, G3, GT3, M3, A3, cp3, us3, h3, v3, w3⟩ := G2.snapped (a := 0) (n := 256) (by omega) (by omega) h2 (by omega) (by omega) (by omega) (by omega) (by omega) (by omega)
  rw [show S2.last + 1 = 2 by omega] at c3 M3 h3 w3 ne2
  have h31 := A3.keepHas (M3.keepHas ne2 h2)
  have p3 : S3.pool.cap = 64 ∧ S3.pool.used ≤ 6 ∧ S3.last = 2 ∧ S3.most = 8 ∧ S3.objs.length = 2 := ⟨by omega, by omega, by rw [A3.last, M3.last], by rw [A3.most, M3.most]; omega, by rw [A3.len, M3.len]; omega⟩
  obtain ⟨_, _, ne3⟩ := G3.freshId (by omega)
  obtain ⟨S4, o4, c4, G4, M4, h4, b4, v4⟩ := G3.sliced (a := 64) (n := 192) (by omega) (by omega) h31 (by omega) (by omega) (by omega) (by omega) (by omega) (by omega)
  rw [show S3.last + 1 = 3 by omega] at c4 M4 h4 b4 v4 ne3
  have h41 := M4.keepHas ne3 h31
  have h42 := M4.keepHas ne3 h3
  have p4 : S4.pool.cap = 64 ∧ S4.pool.used ≤ 6 := ⟨by rw [M4.pool]; omega, by rw [M4.pool]; omega⟩
  have b41 := h41.base0
  have b42 := h42.base0
  rw [h31.base0] at b4
  simp only at b4
  have v41 : ∀ x, S4.view 1 x = S2.view 1 x := fun x => by rw [M4.view G3 ne3 h31.at_, v3 _ _ h2.at_]
  have v42 : ∀ x, 0 ≤ x → x < 256 → S4.view 2 x = S2.view 1 x := fun x q1 q2 => by
    rw [M4.view G3 ne3 h3.at_, w3 x q1 q2]
    rw [Int.zero_add]
  obtain ⟨S5, c5, W5, v5⟩ := G4.writeOk (a := (a : Int)) (l := mine) h41 (by omega) (by omega) (by omega) (by omega)
  have G5 := W5.good
  have h51 := W5.alike.keepHas h41
  have h52 := W5.alike.keepHas h42
  have h53 := W5.alike.keepHas h4
  have p5 : S5.pool.cap = 64 ∧ S5.pool.used ≤ 9 := ⟨by rw [W5.cap]; omega, by have := W5.used1; omega⟩
  have b51 := h51.base0
  have b52 := h52.base0
  have b53 : S5.base Vset.fuel 3 0 = (1, 64) := by rw [W5.alike.base, b4]; rfl
  have v51 : ∀ x, 0 ≤ x → S5.view 1 x = if (a : Int) ≤ x ∧ x < a + mine.length then mine.getD (x - a).toNat 0 else S2.view 1 x := fun x q => by
    rw [v5 1 x (by rw [b41]; simp only; omega), b41, v41]
    simp only [Int.zero_add, true_and]
  have v52 : ∀ x, 0 ≤ x → x < 256 → S5.view 2 x = S2.view 1 x := fun x q1 q2 => by
    rw [v5 2 x (by rw [b42]; simp only; omega), b41, b42, if_neg (by simp), v42 x q1 q2]
  obtain ⟨S6, c6, W6, v6⟩ := G5.writeOk (a := (a : Int)) (l := its) h52 (by omega) (by omega) (by omega) (by omega)
  have G6 := W6.good
  have h61 := W6.alike.keepHas h51
  have h62 := W6.alike.keepHas h52
  have h63 := W6.alike.keepHas h53
  have p6 : S6.pool.cap = 64 ∧ S6.pool.used ≤ 12 := ⟨by rw [W6.cap]; omega, by have := W6.used1; omega⟩
  have b61 := h61.base0
  have b63 : S6.base Vset.fuel 3 0 = (1, 64) := by rw [W6.alike.base, b53]
  have v61 : ∀ x, 0 ≤ x → S6.view 1 x = S5.view 1 x := fun x q => by
    rw [v6 1 x (by rw [b51]; simp only; omega), b51, b52, if_neg (by simp)]
  have v62 : ∀ x, 0 ≤ x → x < 256 → S6.view 2 x = if (a : Int) ≤ x ∧ x < a + its.length then its.getD (x - a).toNat 0 else S2.view 1 x := fun x q1 q2 => by
    rw [v6 2 x (by rw [b52]; simp only; omega), b52, v52 x q1 q2]
    simp only [Int.zero_add, true_and]
  have v63 : ∀ x, 0 ≤ x → S6.view 3 x = S6.view 1 (64 + x) := fun x q => by
    unfold Vset.view
    rw [b63, b61]
    simp only [Int.zero_add]
  obtain ⟨S7, c7, W7, v7⟩ := G6.writeOk (a := 3) (l := its) h63 (by omega) (by omega) (by omega) (by omega)
  have G7 := W7.good
  have h71 := W7.alike.keepHas h61
  have hall : (S2.bytes 1 0 256).length = 256 := by simp [Vset.bytes]
  have hg : ∀ i : Nat, i < 256 → (S2.bytes 1 0 256).getD i 0 = S2.view 1 (i : Int) := fun i q => by rw [bytes_getD q, Int.zero_add]
  have hsp : ∀ (m : List Int), m.length ≤ 100 → ∀ i : Nat, i < 256 → (splice (S2.bytes 1 0 256) a m).getD i 0 = if (a : Int) ≤ (i : Int) ∧ (i : Int) < a + m.length then m.getD ((i : Int) - a).toNat 0 else S2.view 1 (i : Int) := fun m q i q2 => by
    rw [splice_getD (by omega), hg i q2]
    by_cases q3 : a ≤ i ∧ i < a + m.length
    · rw [if_pos q3, if_pos (by omega)]
      congr 1
      omega
    · rw [if_neg q3, if_neg (by omega)]
  refine ⟨S2.bytes 1 0 256, S1, S2, S3, S4, S5, S6, S7, hall, c1, G1, c2, G2, by omega, r2, c3, G3, by omega, c4, G4, c5, G5, ?_, c6, G6, ?_, ?_, ?_, c7, G7, ?_⟩
  · rw [show (256 : Int) = ((256 : Nat) : Int) from rfl, G5.readOk (n := 256) h52 (by omega) (by omega) (by omega)]
    congr 1
    refine bytes_is hall (fun i q => ?_)
    rw [Int.zero_add, v52 _ (by omega) (by omega), hg i q]
  · rw [show (256 : Int) = ((256 : Nat) : Int) from rfl, G6.readOk (n := 256) h61 (by omega) (by omega) (by omega)]
    congr 1
    refine bytes_is (by rw [splice_len (by omega), hall]) (fun i q => ?_)
    rw [Int.zero_add, v61 _ (by omega), v51 _ (by omega), hsp mine hm i q]
  · rw [show (192 : Int) = ((192 : Nat) : Int) from rfl, G6.readOk (n := 192) h63 (by omega) (by omega) (by omega)]
    congr 1
    refine bytes_is (by rw [List.length_drop, splice_len (by omega), hall]) (fun i q => ?_)
    rw [Int.zero_add, v63 _ (by omega), v61 _ (by omega), v51 _ (by omega)]
    have := hsp mine hm (64 + i) (by omega)
    rw [show ((64 + i : Nat) : Int) = 64 + (i : Int) by push_cast; rfl] at this
    rw [← this]
    simp [List.getD_eq_getElem?_getD]
  · rw [show (256 : Int) = ((256 : Nat) : Int) from rfl, G6.readOk (n := 256) h62 (by omega) (by omega) (by omega)]
    congr 1
    refine bytes_is (by rw [splice_len (by omega), hall]) (fun i q => ?_)
    rw [Int.zero_add, v62 _ (by omega) (by omega), hsp its hi i q]
  · rw [G7.readOk h71 (by omega) (by omega) (by omega)]
    congr 1
    refine bytes_is rfl (fun i q => ?_)
    rw [v7 1 _ (by rw [b61]; simp only; omega), b61, b63]
    simp only [true_and]
    rw [if_pos (by constructor <;> omega)]
    congr 1
    omega
end Go.Proofs.Ytkifgoadbnpofaa
