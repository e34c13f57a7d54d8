/- Objects in a row, each carried by the one ahead of it: what the calls of ObjectChain make of them, as plain laws. -/
import Derived.Test.YtkifgoadbnpofaaDoorSweepPure
namespace Go.Proofs.YtkifgoadbnpofaaDoor
open Go Go.RowKit

def row (a c : Nat) (f : Nat → Hdr) : List (Int × Hdr) := (List.range' a c).map fun j : Nat => ((j : Int), f j)
theorem row_len (a c : Nat) (f : Nat → Hdr) : (row a c f).length = c := by simp [row]
theorem row_congr {a c : Nat} {f g : Nat → Hdr} (h : ∀ j, a ≤ j → j < a + c → f j = g j) : row a c f = row a c g :=
  List.map_congr_left fun j hj => by
    rw [List.mem_range'_1] at hj
    rw [h j hj.1 hj.2]
theorem row_succ (a c : Nat) (f : Nat → Hdr) : row a (c + 1) f = ((a : Int), f a) :: row (a + 1) c f := by
  simp [row, List.range'_succ]
theorem get_row (f : Nat → Hdr) (j : Nat) : ∀ (c a : Nat), get (row a c f) (j : Int) = if a ≤ j ∧ j < a + c then some (f j) else none
  | 0, a => by
    have : ¬ (a ≤ j ∧ j < a + 0) := by omega
    rw [if_neg this]; rfl
  | c + 1, a => by
    rw [row_succ]
    simp only [get]
    by_cases e : a = j
    · subst e; rw [if_pos rfl, if_pos (by omega)]
    · rw [if_neg (by omega), get_row f j c (a + 1)]
      by_cases h : a + 1 ≤ j ∧ j < a + 1 + c
      · rw [if_pos h, if_pos (by omega)]
      · rw [if_neg h, if_neg (by omega)]
theorem put_row (f : Nat → Hdr) (j : Nat) (h : Hdr) : ∀ (c a : Nat), a ≤ j → j < a + c → put (row a c f) (j : Int) h = row a c (fun i => if i = j then h else f i)
  | 0, a, h1, h2 => by omega
  | c + 1, a, h1, h2 => by
    rw [row_succ, row_succ]
    simp only [put]
    by_cases e : a = j
    · subst e
      rw [if_pos rfl, if_pos rfl]
      rw [row_congr (g := fun i => if i = a then h else f i) (fun i h3 _ => by rw [if_neg (by omega)])]
    · rw [if_neg (by omega), if_neg e, put_row f j h c (a + 1) (by omega) (by omega)]
theorem put_row_new (f : Nat → Hdr) (h : Hdr) : ∀ (c a : Nat), put (row a c f) ((a + c : Nat) : Int) h = row a (c + 1) (fun i => if i = a + c then h else f i)
  | 0, a => by simp [row, put]
  | c + 1, a => by
    rw [row_succ, row_succ a (c + 1)]
    simp only [put]
    rw [if_neg (by omega), if_neg (by omega), show a + (c + 1) = (a + 1) + c by omega, put_row_new f h c (a + 1)]
theorem del_row (a c : Nat) (f : Nat → Hdr) : del (row a (c + 1) f) (a : Int) = row (a + 1) c f := by
  rw [row_succ]; simp [del]
theorem weight_row (f : Nat → Hdr) (b : Nat) (hb : ∀ j, (f j).bag.length ≤ b) : ∀ (c a : Nat), weight (row a c f) ≤ c * (b + 1)
  | 0, _ => by simp [row, weight]
  | c + 1, a => by
    rw [row_succ]
    have h1 := weight_row f b hb c (a + 1)
    have h2 := hb a
    simp only [weight, List.map_cons, List.sum_cons] at *
    rw [Nat.add_mul]; omega

/-- The header of the j-th, when all behind the i-th are carried. -/
def hd (n held i j : Nat) : Hdr :=
  { kind := 7, refs := if i < j then 0 else 1, pins := if j = held ∧ 1 < held then 1 else 0, carried := if i < j then 1 else 0,
    carries := if i ≤ j ∧ j < n then 1 else 0, bag := if i ≤ j ∧ j < n then [((j + 1 : Nat) : Int)] else [] }
def chain (n held i : Nat) : Obs := { last := n, most := 100, all := row 1 n (hd n held i) }

theorem chain_at (n held i j : Nat) : (chain n held i).at (j : Int) = if 1 ≤ j ∧ j < 1 + n then some (hd n held i j) else none := get_row _ _ _ _
theorem chain_at_in {n held i j : Nat} (h1 : 1 ≤ j) (h2 : j ≤ n) : (chain n held i).at (j : Int) = some (hd n held i j) := by
  rw [chain_at, if_pos (by omega)]
theorem chain_zero : chain 0 0 0 = { most := 100 } := rfl
theorem w64 {n : Int} (h1 : -9223372036854775808 ≤ n) (h2 : n ≤ 9223372036854775807) : wrap64 n = n := by unfold wrap64; omega

theorem chain_new {k : Nat} (h : k < 60) : (chain k 0 k).at (wrap64 ((chain k 0 k).last + 1)) = none := by
  show (chain k 0 k).at (wrap64 ((k : Int) + 1)) = none
  rw [w64 (by omega) (by omega), show ((k : Int) + 1) = ((k + 1 : Nat) : Int) by omega, chain_at, if_neg (by omega)]
theorem chain_make {k : Nat} (h : k < 60) : (chain k 0 k).make 7 = (chain (k + 1) 0 (k + 1), ((k + 1 : Nat) : Int), 0) := by
  have hl : (chain k 0 k).all.length = k := row_len _ _ _
  have e : wrap64 ((chain k 0 k).last + 1) = ((1 + k : Nat) : Int) := by
    show wrap64 ((k : Int) + 1) = _
    rw [w64 (by omega) (by omega)]; omega
  unfold Obs.make
  rw [if_neg (by omega), if_neg (by rw [hl]; show ¬ ((100 : Int) ≤ k); omega), e]
  have e2 : put (row 1 k (hd k 0 k)) ((1 + k : Nat) : Int) (newHdr 7) = row 1 (k + 1) (hd (k + 1) 0 (k + 1)) := by
    rw [put_row_new]
    refine row_congr fun j h1 h2 => ?_
    by_cases ej : j = 1 + k
    · subst ej
      simp [hd, newHdr, firstShows]
      omega
    · rw [if_neg ej]
      simp only [hd]
      rw [if_neg (show ¬ k < j by omega), if_neg (show ¬ k + 1 < j by omega), if_neg (show ¬ k < j by omega), if_neg (show ¬ k + 1 < j by omega)]
      by_cases e3 : k ≤ j ∧ j < k
      · omega
      · have e4 : ¬ (k + 1 ≤ j ∧ j < k + 1) := by omega
        rw [if_neg e3, if_neg e4, if_neg e3, if_neg e4]
  simp only [Obs.set, chain, e2]
  rw [show 1 + k = k + 1 by omega]
theorem chain_pin {n held : Nat} (h1 : 1 < held) (h2 : held ≤ n) : (chain n 0 n).pin (held : Int) = (chain n held n, 0) := by
  unfold Obs.pin
  rw [chain_at_in (by omega) h2]
  simp only [Obs.set, chain]
  rw [put_row _ _ _ _ _ (by omega) (by omega)]
  have : row 1 n (fun i => if i = held then { hd n 0 n held with pins := wrap64 ((hd n 0 n held).pins + 1) } else hd n 0 n i) = row 1 n (hd n held n) := by
    refine row_congr fun j h3 h4 => ?_
    by_cases e : j = held
    · subst e
      rw [if_pos rfl]
      have : wrap64 1 = 1 := by decide +kernel
      simp [hd, h1, this]
    · rw [if_neg e]
      simp [hd, e]
  rw [this]
theorem chain_spare {n held i j : Nat} (h1 : 1 ≤ j) (h2 : j ≤ n) (h3 : j ≤ i) : (chain n held i).spare [(j : Int)] = 0 := by
  have hm : (chain n held i).many [(j : Int)] = some [((j : Int), 1)] := by
    have hw : wrap64 1 = 1 := by decide +kernel
    simp [Obs.many, chain_at_in h1 h2, count, put, get, hw]
  unfold Obs.spare
  rw [hm]
  have : (chain n held i).short ((j : Int), 1) = false := by
    simp only [Obs.short, chain_at_in h1 h2, hd]
    rw [if_neg (by omega)]; rfl
  simp [this]
theorem chain_carry {n held i : Nat} (h1 : 1 ≤ i) (h2 : i < n) : (chain n held (i + 1)).carry (i : Int) [((i + 1 : Nat) : Int)] = (chain n held i, 0) := by
  unfold Obs.carry
  rw [chain_at_in h1 (by omega)]
  simp only
  rw [if_neg (by rw [chain_spare (by omega) (by omega) (Nat.le_refl _)]; simp), if_neg (by simp; omega)]
  have w0 : wrap64 (1 - 1) = 0 := by decide +kernel
  have w1 : wrap64 (0 + 1) = 1 := by decide +kernel
  have hin : (chain n held (i + 1)).into ((i + 1 : Nat) : Int) = { last := n, most := 100, all := row 1 n (fun j => if j = i + 1 then { hd n held (i + 1) (i + 1) with refs := 0, carried := 1 } else hd n held (i + 1) j) } := by
    unfold Obs.into
    rw [chain_at_in (by omega) (by omega)]
    simp only [Obs.set, chain]
    rw [put_row _ _ _ _ _ (by omega) (by omega)]
    have e1 : (hd n held (i + 1) (i + 1)).refs = 1 := by simp [hd]
    have e2 : (hd n held (i + 1) (i + 1)).carried = 0 := by simp [hd]
    rw [e1, e2, w0, w1]
  simp only [List.foldl_cons, List.foldl_nil, hin]
  have hat : Obs.at { last := n, most := 100, all := row 1 n (fun j => if j = i + 1 then { hd n held (i + 1) (i + 1) with refs := 0, carried := 1 } else hd n held (i + 1) j) } (i : Int) = some (hd n held (i + 1) i) := by
    show get _ _ = _
    rw [get_row, if_pos (by omega), if_neg (by omega)]
  have hb : (hd n held (i + 1) i).bag = [] := by simp only [hd]; rw [if_neg (by omega)]
  simp only [Obs.bagTo, Obs.bagOf, hat, hb, Obs.set, chain]
  rw [put_row _ _ _ _ _ (by omega) (by omega)]
  congr 2
  refine row_congr fun j h3 h4 => ?_
  by_cases e : j = i
  · subst e
    rw [if_pos rfl]
    simp only [hd]
    rw [if_neg (show ¬ j + 1 < j by omega), if_neg (show ¬ j < j by omega), if_neg (show ¬ j + 1 < j by omega), if_neg (show ¬ j < j by omega), if_pos (show j ≤ j ∧ j < n by omega), if_pos (show j ≤ j ∧ j < n by omega)]
    rfl
  · rw [if_neg e]
    by_cases e2 : j = i + 1
    · subst e2
      rw [if_pos rfl]
      simp only [hd]
      rw [if_pos (show i < i + 1 by omega), if_pos (show i < i + 1 by omega)]
      by_cases e3 : i + 1 ≤ i + 1 ∧ i + 1 < n
      · rw [if_pos e3, if_pos e3, if_pos (show i ≤ i + 1 ∧ i + 1 < n by omega), if_pos (show i ≤ i + 1 ∧ i + 1 < n by omega)]
      · rw [if_neg e3, if_neg e3, if_neg (show ¬ (i ≤ i + 1 ∧ i + 1 < n) by omega), if_neg (show ¬ (i ≤ i + 1 ∧ i + 1 < n) by omega)]
    · rw [if_neg e2]
      simp only [hd]
      by_cases e3 : i + 1 < j
      · rw [if_pos e3, if_pos e3, if_pos (show i < j by omega), if_pos (show i < j by omega)]
        by_cases e4 : i + 1 ≤ j ∧ j < n
        · rw [if_pos e4, if_pos e4, if_pos (show i ≤ j ∧ j < n by omega), if_pos (show i ≤ j ∧ j < n by omega)]
        · rw [if_neg e4, if_neg e4, if_neg (show ¬ (i ≤ j ∧ j < n) by omega), if_neg (show ¬ (i ≤ j ∧ j < n) by omega)]
      · rw [if_neg e3, if_neg e3, if_neg (show ¬ i < j by omega), if_neg (show ¬ i < j by omega), if_neg (show ¬ (i + 1 ≤ j ∧ j < n) by omega), if_neg (show ¬ (i + 1 ≤ j ∧ j < n) by omega), if_neg (show ¬ (i ≤ j ∧ j < n) by omega), if_neg (show ¬ (i ≤ j ∧ j < n) by omega)]

/-- What is left when the first k - 1 have ended: the k-th is held by nobody but a pin. -/
def rem (n held k : Nat) : Obs := { last := n, most := 100, all := row k (n + 1 - k) (fun j => if j = k then { hd n held 1 j with refs := 0, carried := 0 } else hd n held 1 j) }
def stop (n held : Nat) : Nat := if 1 < held then held else n + 1
def ends (k c : Nat) : List Ev := (List.range' k c).map fun j : Nat => ⟨(j : Int), true, 0⟩

theorem endOne_of {S : Obs} {id : Int} {h : Hdr} {T : Obs} {ev : List Ev} (hun : (S.del id).unpeer h.peer = (T, ev)) :
    S.endOne id h = (h.bag.foldl Obs.drop1 T, ⟨id, true, 0⟩ :: ev, h.bag.filter fun c => (T.at c).isSome) := by
  simp only [Obs.endOne, hun, drops_eq]
theorem rem_sweep {n held : Nat} (hn : held ≤ n) : ∀ (d k : Nat), 1 ≤ k → k ≤ stop n held → stop n held - k = d → k ≤ n →
    (rem n held k).sweep [(k : Int)] = ({ last := n, most := 100, all := if stop n held ≤ n then (rem n held (stop n held)).all else [] }, ends k (stop n held - k)) := by
  intro d
  induction d with
  | zero =>
    intro k h1 h2 h3 h4
    have hs : stop n held = k := by omega
    have hk : 1 < held ∧ held = k := by
      unfold stop at hs
      by_cases h : 1 < held
      · rw [if_pos h] at hs; exact ⟨h, hs⟩
      · rw [if_neg h] at hs; omega
    rw [sweep_skip, sweep_nil, hs, if_pos h4]
    · simp [ends, rem]
    · intro x hx
      have : (rem n held k).at (k : Int) = some { hd n held 1 k with refs := 0, carried := 0 } := by
        show get _ _ = _
        unfold rem
        rw [get_row, if_pos (by omega), if_pos rfl]
      rw [this] at hx
      cases hx
      have : (hd n held 1 k).pins = 1 := by simp [hd, hk.2.symm, hk.1]
      simp only [Hdr.held, this]
      decide +kernel
  | succ d ih =>
    intro k h1 h2 h3 h4
    have hne : ¬ (k = held ∧ 1 < held) := by
      rintro ⟨e, h⟩
      have : stop n held = held := by unfold stop; rw [if_pos h]
      omega
    have hat : (rem n held k).at (k : Int) = some { hd n held 1 k with refs := 0, carried := 0 } := by
      show get _ _ = _
      unfold rem
      rw [get_row, if_pos (by omega), if_pos rfl]
    have hp : (hd n held 1 k).pins = 0 := by simp only [hd]; rw [if_neg hne]
    have hh : Hdr.held { hd n held 1 k with refs := 0, carried := 0 } = false := by
      simp only [Hdr.held, hp]; decide +kernel
    rw [sweep_end hat hh]
    have hdel : (rem n held k).del (k : Int) = { last := n, most := 100, all := row (k + 1) (n + 1 - (k + 1)) (hd n held 1) } := by
      unfold rem Obs.del
      simp only
      rw [show n + 1 - k = (n + 1 - (k + 1)) + 1 by omega, del_row]
      congr 1
      exact row_congr fun j h5 _ => by rw [if_neg (by omega)]
    have hpeer : ({ hd n held 1 k with refs := 0, carried := 0 } : Hdr).peer = 0 := rfl
    have hun : Obs.unpeer ((rem n held k).del (k : Int)) 0 = ((rem n held k).del (k : Int), []) := by
      have : ((rem n held k).del (k : Int)).at 0 = none := by
        rw [hdel]
        show get _ ((0 : Nat) : Int) = _
        rw [get_row, if_neg (by omega)]
      simp [Obs.unpeer, this]
    by_cases hkn : k < n
    · have hbag : ({ hd n held 1 k with refs := 0, carried := 0 } : Hdr).bag = [((k + 1 : Nat) : Int)] := by
        simp only [hd]; rw [if_pos (by omega)]
      have hd1 : ((rem n held k).del (k : Int)).drop1 ((k + 1 : Nat) : Int) = rem n held (k + 1) := by
        rw [hdel]
        have e : Obs.at { last := n, most := 100, all := row (k + 1) (n + 1 - (k + 1)) (hd n held 1) } ((k + 1 : Nat) : Int) = some (hd n held 1 (k + 1)) := by
          show get _ _ = _
          rw [get_row, if_pos (by omega)]
        unfold Obs.drop1
        rw [e]
        simp only [Obs.set]
        rw [put_row _ _ _ _ _ (by omega) (by omega)]
        have w0 : wrap64 (1 - 1) = 0 := by decide +kernel
        have e1 : (hd n held 1 (k + 1)).carried = 1 := by simp only [hd]; rw [if_pos (by omega)]
        have e2 : (hd n held 1 (k + 1)).refs = 0 := by simp only [hd]; rw [if_pos (by omega)]
        rw [e1, w0]
        unfold rem
        congr 1
        refine row_congr fun j _ _ => ?_
        by_cases ej : j = k + 1
        · rw [if_pos ej, if_pos ej, ej, ← e2]
        · rw [if_neg ej, if_neg ej]
      have hsome : (((rem n held k).del (k : Int)).at ((k + 1 : Nat) : Int)).isSome = true := by
        rw [hdel]
        show (get _ _).isSome = true
        rw [get_row, if_pos (by omega)]; rfl
      have he : (rem n held k).endOne (k : Int) { hd n held 1 k with refs := 0, carried := 0 } = (rem n held (k + 1), [⟨(k : Int), true, 0⟩], [((k + 1 : Nat) : Int)]) := by
        rw [endOne_of (T := (rem n held k).del (k : Int)) (ev := []) (by rw [hpeer]; exact hun), hbag]
        simp only [List.foldl_cons, List.foldl_nil, hd1, List.filter_cons, hsome, if_true, List.filter_nil]
      rw [he]
      simp only [List.nil_append]
      rw [ih (k + 1) (by omega) (by omega) (by omega) (by omega)]
      simp only [ends]
      rw [show stop n held - k = (stop n held - (k + 1)) + 1 by omega, List.range'_succ, List.map_cons]
      rfl
    · have hbag : ({ hd n held 1 k with refs := 0, carried := 0 } : Hdr).bag = [] := by
        simp only [hd]; rw [if_neg (by omega)]
      have hk : k = n := by omega
      have hst : stop n held = n + 1 := by
        unfold stop at *
        by_cases h : 1 < held
        · rw [if_pos h] at *; omega
        · rw [if_neg h]
      have he : (rem n held k).endOne (k : Int) { hd n held 1 k with refs := 0, carried := 0 } = ((rem n held k).del (k : Int), [⟨(k : Int), true, 0⟩], []) := by
        rw [endOne_of (T := (rem n held k).del (k : Int)) (ev := []) (by rw [hpeer]; exact hun), hbag]
        simp only [List.foldl_nil, List.filter_nil]
      rw [he]
      simp only [List.append_nil]
      rw [sweep_nil, hdel, hst, if_neg (by omega)]
      subst hk
      rw [show k + 1 - (k + 1) = 0 by omega, show k + 1 - k = 1 by omega]
      rfl

theorem chain_unref {n held : Nat} (h1 : 1 ≤ n) (h2 : held ≤ n) : ∃ S', (chain n held 1).unref [1] = (S', ends 1 (stop n held - 1), 0) ∧ S'.all.length = n + 1 - stop n held := by
  have hsp : (chain n held 1).spare [1] = 0 := chain_spare (j := 1) (Nat.le_refl _) h1 (Nat.le_refl _)
  have hd1 : (chain n held 1).deref ((1 : Nat) : Int) = rem n held 1 := by
    unfold Obs.deref
    rw [chain_at_in (Nat.le_refl _) h1]
    simp only [Obs.set, chain]
    rw [put_row _ _ _ _ _ (by omega) (by omega)]
    have w0 : wrap64 (1 - 1) = 0 := by decide +kernel
    have e1 : (hd n held 1 1).refs = 1 := by simp [hd]
    have e2 : (hd n held 1 1).carried = 0 := by simp [hd]
    rw [e1, w0]
    unfold rem
    rw [show n + 1 - 1 = n by omega]
    congr 1
    refine row_congr fun j _ _ => ?_
    by_cases ej : j = 1
    · rw [if_pos ej, if_pos ej, ej, ← e2]
    · rw [if_neg ej, if_neg ej]
  have hs1 : 1 ≤ stop n held := by unfold stop; split <;> omega
  have hsw := rem_sweep h2 (stop n held - 1) 1 (Nat.le_refl _) hs1 rfl h1
  show ∃ S', (chain n held 1).unref [((1 : Nat) : Int)] = (S', ends 1 (stop n held - 1), 0) ∧ S'.all.length = n + 1 - stop n held
  refine ⟨{ last := n, most := 100, all := if stop n held ≤ n then (rem n held (stop n held)).all else [] }, ?_, ?_⟩
  · have hsp' : (chain n held 1).spare [((1 : Nat) : Int)] = 0 := hsp
    unfold Obs.unref
    rw [if_pos hsp']
    simp only [List.foldl_cons, List.foldl_nil, hd1, hsw]
  · simp only
    split
    · rw [rem]; exact row_len _ _ _
    · simp; omega
theorem chain_weight (n held i : Nat) : weight (chain n held i).all ≤ n * 2 :=
  weight_row _ 1 (fun j => by simp only [hd]; split <;> simp) n 1
end Go.Proofs.YtkifgoadbnpofaaDoor
