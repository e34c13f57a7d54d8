/- Facts on memory that the walks of layers 7 to 10 share: maps behind steps, slices of numbers, rows of structs. Conditions: none. -/
import Derived.Test.YtkifgoadbnpofaaRow
namespace Go.Proofs.Ytkifgoadbnpofaa
open Go Go.RowKit

theorem MapAt_drewN {w : World} {n m : Nat} {L : List (Int × Value)} : MapAt (w.drewN n) m L ↔ MapAt w m L := ⟨fun h => ⟨h.ex⟩, fun h => ⟨h.ex⟩⟩
theorem MapAt_drew {w : World} {m : Nat} {L : List (Int × Value)} : MapAt w.drew m L ↔ MapAt w m L := ⟨fun h => ⟨h.ex⟩, fun h => ⟨h.ex⟩⟩
theorem MapAt_setCell {w : World} {m : Nat} {L : List (Int × Value)} {a : Addr} {v : Value} : MapAt (w.setCell a v) m L ↔ MapAt w m L := by
  have key : ∀ es clk, (w.setCell a v).heap[m]? = some (.map es clk) ↔ w.heap[m]? = some (.map es clk) := by
    intro es clk
    by_cases h : m = a.block
    · subst h
      simp only [World.setCell, Array.getElem?_modify, if_true]
      cases hh : w.heap[a.block]? with
      | none => simp
      | some o => cases o <;> simp
    · rw [hp_setCell_ne _ _ _ _ h]
  constructor
  · rintro ⟨es, clk, h, r⟩; exact ⟨es, clk, (key es clk).1 h, r⟩
  · rintro ⟨es, clk, h, r⟩; exact ⟨es, clk, (key es clk).2 h, r⟩
theorem MapAt_alloc {w : World} {m : Nat} {L : List (Int × Value)} {o : Obj} (hm : m < w.heap.size) : MapAt (w.alloc o) m L ↔ MapAt w m L := by
  constructor
  · rintro ⟨h⟩; exact ⟨by rw [hp_alloc_old _ _ _ hm] at h; exact h⟩
  · rintro ⟨h⟩; exact ⟨by rw [hp_alloc_old _ _ _ hm]; exact h⟩
attribute [go_sem] MapAt_drewN MapAt_drew MapAt_setCell MapAt_alloc

/-- The k-th number. -/
def nth (l : List Int) (k : Nat) : Int := l.getD k 0
theorem nth_mem {l : List Int} {k : Nat} (h : k < l.length) : nth l k ∈ l := by
  rw [nth, List.getD_eq_getElem?_getD, List.getElem?_eq_getElem h]; exact List.getElem_mem h
theorem nth_get {l : List Int} {k : Nat} (h : k < l.length) : nth l k = l[k] := by
  rw [nth, List.getD_eq_getElem?_getD, List.getElem?_eq_getElem h]; rfl
theorem take_nth {l : List Int} {k : Nat} (h : k < l.length) : l.take (k + 1) = l.take k ++ [nth l k] := by
  rw [List.take_succ_eq_append_getElem h, nth_get h]
/-- A slice of int that holds l. -/
def IntsAt (w : World) (v : Value) (l : List Int) : Prop :=
  ∃ a c, v = .slice a l.length c ∧ l.length ≤ maxLen ∧ (0 < l.length → ∃ b off, a = some ⟨b, off, none⟩ ∧ b < w.heap.size ∧ ∀ j, j < l.length → w.cell? ⟨b, off + j, none⟩ = some (i64 (nth l j)))
theorem IntsAt.ofRow {w : World} {e : TypeId} {v : Value} {l : List Int} (h : Row w e 1 v l.length (l.map i64)) (hm : l.length ≤ maxLen) : IntsAt w v l := by
  rcases h.2 with ⟨rfl, h0⟩ | ⟨g, off, cap, cur, rfl, hg, _⟩
  · refine ⟨none, 0, by rw [h0], hm, fun h => by omega⟩
  · exact ⟨_, cap, rfl, hm, fun _ => ⟨g, off, rfl, hp_lt hg, fun j hj => h.cells j _ (by rw [nth_get hj]; simp [hj])⟩⟩
theorem IntsAt.src {w : World} {v : Value} {l : List Int} (h : IntsAt w v l) : Src w 1 v l.length (l.map i64) := by
  obtain ⟨a, c, rfl, _, hr⟩ := h
  refine ⟨by simp, by simp [i64, Value.oneCell'], ?_⟩
  by_cases h0 : 0 < l.length
  · obtain ⟨b, off, rfl, _, hc⟩ := hr h0
    refine .inr ⟨b, off, c, rfl, fun j u hu => ?_⟩
    have hj : j < l.length := by
      have := (List.getElem?_eq_some_iff.1 hu).1
      simpa using this
    rw [hc j hj, nth_get hj]
    simp [hj] at hu
    rw [hu]
  · exact .inl ⟨by omega, a, c, by rw [show l.length = 0 by omega]⟩
theorem IntsAt.of {w w' : World} {v : Value} {l : List Int} (h : IntsAt w v l) (hs : w.heap.size ≤ w'.heap.size) (hb : ∀ k, v.ownBlock = some k → k < w.heap.size → w'.heap[k]? = w.heap[k]?) : IntsAt w' v l := by
  obtain ⟨a, c, rfl, hm, hr⟩ := h
  refine ⟨a, c, rfl, hm, fun h0 => ?_⟩
  obtain ⟨b, off, rfl, hlt, hc⟩ := hr h0
  refine ⟨b, off, rfl, by omega, fun j hj => ?_⟩
  rw [← hc j hj]
  exact World.cell?_of_block (hb b rfl hlt)


/- ROWS OF STRUCTS: the cells of a list of structs, each of k cells. -/
section
variable {α : Type} {g : α → List Value} {k : Nat}
theorem flat_len {L : List α} (h : ∀ f ∈ L, (g f).length = k) : (L.flatMap g).length = L.length * k := by
  induction L with
  | nil => simp
  | cons a L ih =>
    rw [List.flatMap_cons, List.length_append, h a List.mem_cons_self, ih (fun f hf => h f (List.mem_cons_of_mem _ hf)), List.length_cons, Nat.add_mul]
    omega
theorem flat_split {L : List α} (h : ∀ f ∈ L, (g f).length = k) {i : Nat} {f : α} (hi : L[i]? = some f) :
    L.flatMap g = (L.take i).flatMap g ++ (g f ++ (L.drop (i + 1)).flatMap g) ∧ ((L.take i).flatMap g).length = i * k := by
  obtain ⟨hlt, he⟩ := List.getElem?_eq_some_iff.1 hi
  refine ⟨?_, ?_⟩
  · conv => lhs; rw [← List.take_append_drop i L, List.drop_eq_getElem_cons hlt, he]
    simp
  · rw [flat_len (fun f hf => h f (List.mem_of_mem_take hf)), List.length_take, Nat.min_eq_left (by omega)]
theorem flat_get {L : List α} (h : ∀ f ∈ L, (g f).length = k) {i j : Nat} {f : α} (hi : L[i]? = some f) (hj : j < k) : (L.flatMap g)[i * k + j]? = (g f)[j]? := by
  obtain ⟨h1, h2⟩ := flat_split h hi
  have hf := h f (List.mem_of_getElem? hi)
  rw [h1, List.getElem?_append_right (by omega), h2, Nat.add_sub_cancel_left, List.getElem?_append_left (by omega)]
theorem flat_range {L : List α} (h : ∀ f ∈ L, (g f).length = k) {i j m : Nat} {f : α} (hi : L[i]? = some f) (hj : j + m ≤ k) : ((L.flatMap g).drop (i * k + j)).take m = ((g f).drop j).take m := by
  obtain ⟨h1, h2⟩ := flat_split h hi
  have hf := h f (List.mem_of_getElem? hi)
  rw [h1, ← h2, List.drop_append, List.drop_of_length_le (by omega), List.nil_append, Nat.add_sub_cancel_left, List.drop_append_of_le_length (by omega), List.take_append_of_le_length (by rw [List.length_drop]; omega)]
theorem flat_splice {L : List α} (h : ∀ f ∈ L, (g f).length = k) {i j : Nat} {f f' : α} {vs : List Value} (hi : L[i]? = some f) (hj : j + vs.length ≤ k)
    (hf' : g f' = (g f).take j ++ vs ++ (g f).drop (j + vs.length)) :
    (L.flatMap g).take (i * k + j) ++ vs ++ (L.flatMap g).drop (i * k + j + vs.length) = (L.set i f').flatMap g := by
  obtain ⟨h1, h2⟩ := flat_split h hi
  have hf := h f (List.mem_of_getElem? hi)
  obtain ⟨hlt, he⟩ := List.getElem?_eq_some_iff.1 hi
  have e2 : (L.set i f').flatMap g = (L.take i).flatMap g ++ (g f' ++ (L.drop (i + 1)).flatMap g) := by
    rw [List.set_eq_take_append_cons_drop, if_pos hlt]; simp
  rw [e2, hf', h1, ← h2, List.take_append, List.take_of_length_le (by omega), Nat.add_sub_cancel_left, List.take_append_of_le_length (by omega)]
  rw [show ((L.take i).flatMap g).length + j + vs.length = ((L.take i).flatMap g).length + (j + vs.length) by omega, List.drop_append, List.drop_of_length_le (by omega), List.nil_append, Nat.add_sub_cancel_left, List.drop_append_of_le_length (by omega)]
  simp [List.append_assoc]
theorem flat_set {L : List α} (h : ∀ f ∈ L, (g f).length = k) {i j : Nat} {f f' : α} {v : Value} (hi : L[i]? = some f) (hj : j < k) (hf' : g f' = (g f).set j v) :
    (L.flatMap g).set (i * k + j) v = (L.set i f').flatMap g := by
  have hf := h f (List.mem_of_getElem? hi)
  have := flat_splice h (vs := [v]) (f' := f') hi (j := j) (by simp; omega) (by rw [hf', List.set_eq_take_append_cons_drop, if_pos (by omega)]; simp)
  rw [← this]
  have hlt : i * k + j < (L.flatMap g).length := by
    rw [flat_len h]
    have := (List.getElem?_eq_some_iff.1 hi).1
    calc i * k + j < i * k + k := by omega
      _ = (i + 1) * k := by rw [Nat.add_mul, Nat.one_mul]
      _ ≤ L.length * k := Nat.mul_le_mul_right _ this
  rw [List.set_eq_take_append_cons_drop, if_pos hlt]
  simp
end
end Go.Proofs.Ytkifgoadbnpofaa
