/- A range over a map keyed by int whose round does not write the map: which entries are still to come. Stated over any program. -/
import Derived.Test.YtkifgoadbnpofaaDoorKit
import Derived.Maps.RangeRun
namespace Go.Proofs.YtkifgoadbnpofaaDoor
open Go Go.RowKit

def keyInt : Value → Int
  | .int _ n => n
  | _ => 0
def dec (e : MapEntry) : Int × Value := (keyInt e.key, e.val)

/-- r is an iterator over the map m, which holds L; rest is still to come. -/
def IterAt (w : World) (r m : Nat) (L rest : List (Int × Value)) : Prop :=
  ∃ es clk seen since c0, w.heap[m]? = some (.map es clk) ∧ es.toList.map (fun e => (e.key, e.val)) = L.map (fun p => (i64 p.1, p.2)) ∧ (es.toList.map (·.born)).Nodup ∧
    w.heap[r]? = some (.mapIter (some m) since seen c0) ∧ (∀ x ∈ es.toList, x.born < since) ∧ since ≤ c0 ∧ since ≤ clk ∧ (leftOf es seen).toList.map dec = rest

theorem dec_map : ∀ {es : List MapEntry} {L : List (Int × Value)}, es.map (fun e => (e.key, e.val)) = L.map (fun p => (i64 p.1, p.2)) → es.map dec = L ∧ ∀ e ∈ es, e.key = i64 (dec e).1
  | [], [], _ => ⟨rfl, by simp⟩
  | [], _ :: _, h => by simp at h
  | _ :: _, [], h => by simp at h
  | e :: es, (k, v) :: L, h => by
    simp only [List.map_cons, List.cons.injEq, Prod.mk.injEq] at h
    obtain ⟨⟨hk, hv⟩, hr⟩ := h
    obtain ⟨h1, h2⟩ := dec_map hr
    refine ⟨by simp [dec, hk, hv, keyInt]; exact h1, ?_⟩
    intro x hx
    rcases List.mem_cons.1 hx with rfl | hx
    · simp [dec, hk, keyInt]
    · exact h2 x hx

/-- How many entries are still to come, read off the world. -/
def iterLeft (w : World) (r m : Nat) : Nat :=
  match w.heap[m]?, w.heap[r]? with
  | some (.map es _), some (.mapIter _ _ seen _) => (leftOf es seen).size
  | _, _ => 0
section
variable {P : Program} {w : World} {m r : Nat} {L rest : List (Int × Value)}
theorem IterAt.map (h : IterAt w r m L rest) : MapAt w m L := by
  obtain ⟨es, clk, seen, since, c0, hm, hL, hn, _, hb, _, hsc, _⟩ := h
  exact ⟨es, clk, hm, hL, fun e he => by have := hb e he; omega, hn⟩
theorem IterAt.of (h : IterAt w r m L rest) {w' : World} (hm : w'.heap[m]? = w.heap[m]?) (hr : w'.heap[r]? = w.heap[r]?) : IterAt w' r m L rest := by
  obtain ⟨es, clk, seen, since, c0, h1, h2, h3, h4, h5⟩ := h
  exact ⟨es, clk, seen, since, c0, hm.trans h1, h2, h3, hr.trans h4, h5⟩

theorem IterAt.left (h : IterAt w r m L rest) : iterLeft w r m = rest.length := by
  obtain ⟨es, clk, seen, since, c0, hm, _, _, hr, _, _, _, hrest⟩ := h
  simp [iterLeft, hm, hr, ← hrest]
theorem run_range (t kt et : TypeId) (ht : P.underlying t = some (.map kt et)) (h : MapAt w m L) :
    ∃ w', (Instr.range t (.map (some m))).run P w = .ok (.pointer (some ⟨w.heap.size, 0, none⟩)) w' ∧ IterAt w' w.heap.size m L L ∧ w'.heap.size = w.heap.size + 1 ∧ Mods (fun _ => False) w w' := by
  obtain ⟨es, clk, hh, hL, hb, hn⟩ := h.ex
  have hlt := hp_lt hh
  refine ⟨w.alloc (.mapIter (some m) clk #[] clk), ?_, ?_, by simp, (Mods.refl _ _).alloc _⟩
  · simp [Instr.range, run_underlying ht, Result.andThen, gObj hh]
  · refine ⟨es, clk, #[], clk, clk, by rw [hp_alloc_old _ _ _ hlt]; exact hh, hL, hn, hp_alloc_new w _, hb, Nat.le_refl _, Nat.le_refl _, ?_⟩
    have : leftOf es #[] = es := by simp [leftOf]
    rw [this]
    exact (dec_map hL).1

theorem run_next_iter (h : IterAt w r m L rest) :
    (rest = [] ∧ ∀ ty, (Instr.next (.pointer (some ⟨r, 0, none⟩)) false ty).run P w = .ok (.tuple #[.bool false]) w) ∨
    ∃ k v rest' w', (k, v) ∈ rest ∧ (∀ p ∈ rest, p = (k, v) ∨ p ∈ rest') ∧ rest'.length < rest.length ∧ (∀ p ∈ rest', p ∈ rest) ∧
      (∀ ty, (Instr.next (.pointer (some ⟨r, 0, none⟩)) false ty).run P w = .ok (.tuple #[.bool true, i64 k, v]) w') ∧
      IterAt w' r m L rest' ∧ w'.heap.size = w.heap.size ∧ Mods (fun k => k = r) w w' ∧
      (Instr.entry (.pointer (some ⟨r, 0, none⟩))).run P w' = .ok (.tuple #[i64 k, v]) w' := by
  obtain ⟨es, clk, seen, since, c0, hm, hL, hn, hr, hb, hsc, hsk, hrest⟩ := h
  rcases run_next_at (P := P) w 0 r m since c0 seen es clk hr hm hb hsc with ⟨h0, hrun⟩ | ⟨e, he, w1, hal, hrun⟩
  · refine .inl ⟨?_, fun _ => hrun⟩
    rw [← hrest]
    have : (leftOf es seen).toList = [] := List.eq_nil_of_length_eq_zero (by simpa using h0)
    rw [this]; rfl
  · have hrm : r ≠ m := by rintro rfl; rw [hr] at hm; cases hm
    have hem : e ∈ es.toList := by simp [leftOf] at he; simpa using he.1
    have hek := (dec_map hL).2 e hem
    have hw1 : ∀ k : Nat, w1.heap[k]? = w.heap[k]? := by rcases hal with rfl | rfl <;> intro k <;> rfl
    have hw1s : w1.heap.size = w.heap.size := by rcases hal with rfl | rfl <;> rfl
    have hset : ∀ k : Nat, k ≠ r → (ChangeMaps.setBlock w1 r (.mapIter (some m) since (seen.push e.born) clk)).heap[k]? = w.heap[k]? := by
      intro k hk
      simp only [ChangeMaps.setBlock]
      rw [← hw1 k]
      simp [Ne.symm hk]
    have hsetr : (ChangeMaps.setBlock w1 r (.mapIter (some m) since (seen.push e.born) clk)).heap[r]? = some (.mapIter (some m) since (seen.push e.born) clk) := by
      have := hp_lt hr
      simp only [ChangeMaps.setBlock]
      simp [hw1s, this]
    have hmods : Mods (fun k => k = r) w (ChangeMaps.setBlock w1 r (.mapIter (some m) since (seen.push e.born) clk)) := by
      refine ⟨?_, ?_, ?_, by simp [ChangeMaps.setBlock, hw1s], fun k _ hk => hset k hk⟩ <;> rcases hal with rfl | rfl <;> rfl
    have hleft : (leftOf es (seen.push e.born)).toList = (leftOf es seen).toList.filter (fun x => x.born != e.born) := by
      simp only [leftOf, Array.toList_filter, List.filter_filter]
      refine List.filter_congr fun x _ => ?_
      by_cases hxe : x.born = e.born <;> simp [hxe]
    refine .inr ⟨(dec e).1, e.val, ((leftOf es (seen.push e.born)).toList.map dec), _, ?_, ?_, ?_, ?_, fun _ => by rw [← hek]; exact hrun, ?_, ?_, hmods, ?_⟩
    · rw [← hrest]; exact List.mem_map.2 ⟨e, he, rfl⟩
    · intro p hp
      rw [← hrest] at hp
      obtain ⟨x, hx, rfl⟩ := List.mem_map.1 hp
      by_cases hxe : x.born = e.born
      · left
        have hxm : x ∈ es.toList := by simp [leftOf] at hx; simpa using hx.1
        have : x = e := by
          have h1 := find_born x es.toList hn hxm
          rw [hxe, find_born e es.toList hn hem] at h1
          cases h1; rfl
        rw [this]; rfl
      · right
        rw [hleft]
        exact List.mem_map.2 ⟨x, List.mem_filter.2 ⟨hx, by simpa [bne] using hxe⟩, rfl⟩
    · rw [← hrest, hleft, List.length_map, List.length_map]
      have h1 := List.length_filter_lt_length_iff_exists (p := fun x : MapEntry => x.born != e.born) (l := (leftOf es seen).toList)
      exact h1.2 ⟨e, he, by simp⟩
    · intro p hp
      rw [hleft] at hp
      obtain ⟨x, hx, rfl⟩ := List.mem_map.1 hp
      rw [← hrest]
      exact List.mem_map.2 ⟨x, (List.mem_filter.1 hx).1, rfl⟩
    · exact ⟨es, clk, seen.push e.born, since, clk, (hset m (Ne.symm hrm)).trans hm, hL, hn, hsetr, hb, hsk, hsk, rfl⟩
    · simp [ChangeMaps.setBlock, hw1s]
    · rw [← hek]
      exact run_entry_at _ r m since seen es clk e hsetr ((hset m (Ne.symm hrm)).trans hm) hem hn
end
end Go.Proofs.YtkifgoadbnpofaaDoor
