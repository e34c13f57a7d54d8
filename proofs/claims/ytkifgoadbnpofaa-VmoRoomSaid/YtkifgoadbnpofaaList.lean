/- Facts on get, put, del of lists of pairs. No program, no memory. -/
import Derived.Test.YtkifgoadbnpofaaKit
namespace Go.Proofs.Ytkifgoadbnpofaa
open Go Go.RowKit

/- get, put, del -/
section
variable {α : Type}
theorem get_put (L : List (Int × α)) (k x : Int) (v : α) : get (put L k v) x = if k = x then some v else get L x := by
  induction L with
  | nil => simp [put, get]
  | cons p L ih =>
    obtain ⟨a, u⟩ := p
    by_cases h : a = k
    · subst h
      by_cases h2 : a = x <;> simp [put, get, h2]
    · by_cases h2 : a = x
      · subst h2
        have : ¬ k = a := fun e => h e.symm
        simp [put, get, h, this]
      · simp [put, get, h, h2, ih]
theorem get_mem {L : List (Int × α)} {k : Int} {v : α} (h : get L k = some v) : (k, v) ∈ L := by
  induction L with
  | nil => simp [get] at h
  | cons p L ih =>
    obtain ⟨a, u⟩ := p
    by_cases h2 : a = k
    · simp [get, h2] at h; subst h; subst h2; exact List.mem_cons_self
    · simp [get, h2] at h; exact List.mem_cons_of_mem _ (ih h)
theorem get_none {L : List (Int × α)} {k : Int} : get L k = none ↔ k ∉ L.map (·.1) := by
  induction L with
  | nil => simp [get]
  | cons p L ih =>
    obtain ⟨a, u⟩ := p
    by_cases h2 : a = k
    · simp [get, h2]
    · have : ¬ k = a := fun e => h2 e.symm
      simp [get, h2, ih, this]
theorem get_of_mem {L : List (Int × α)} (hn : (L.map (·.1)).Nodup) {k : Int} {v : α} (h : (k, v) ∈ L) : get L k = some v := by
  induction L with
  | nil => cases h
  | cons p L ih =>
    obtain ⟨a, u⟩ := p
    simp only [List.map_cons, List.nodup_cons] at hn
    cases h with
    | head => simp [get]
    | tail _ h =>
      have : a ≠ k := by rintro rfl; exact hn.1 (List.mem_map.2 ⟨_, h, rfl⟩)
      simp [get, this, ih hn.2 h]
theorem keys_put_some (L : List (Int × α)) (k : Int) (v : α) (h : (get L k).isSome = true) : (put L k v).map (·.1) = L.map (·.1) := by
  induction L with
  | nil => simp [get] at h
  | cons p L ih =>
    obtain ⟨a, u⟩ := p
    by_cases h2 : a = k
    · simp [put, h2]
    · simp [get, h2] at h; simp [put, h2, ih h]
theorem put_of_none (L : List (Int × α)) (k : Int) (v : α) (h : get L k = none) : put L k v = L ++ [(k, v)] := by
  induction L with
  | nil => rfl
  | cons p L ih =>
    obtain ⟨a, u⟩ := p
    by_cases h2 : a = k
    · simp [get, h2] at h
    · simp [get, h2] at h; simp [put, h2, ih h]
theorem nodup_put {L : List (Int × α)} (hn : (L.map (·.1)).Nodup) (k : Int) (v : α) : ((put L k v).map (·.1)).Nodup := by
  cases h : get L k with
  | none =>
    rw [put_of_none _ _ _ h, List.map_append]
    refine List.nodup_append.2 ⟨hn, by simp, ?_⟩
    intro a ha b hb hab
    simp at hb; subst hb; subst hab
    exact get_none.1 h ha
  | some u => rw [keys_put_some _ _ _ (by simp [h])]; exact hn
theorem mem_put {L : List (Int × α)} {k : Int} {v : α} {p : Int × α} (hn : (L.map (·.1)).Nodup) : p ∈ put L k v ↔ p = (k, v) ∨ (p ∈ L ∧ p.1 ≠ k) := by
  constructor
  · intro h
    have hg := get_of_mem (nodup_put hn k v) (k := p.1) (v := p.2) h
    rw [get_put] at hg
    by_cases e : k = p.1
    · left; simp [e] at hg; rw [e, hg]
    · right; rw [if_neg e] at hg; exact ⟨get_mem hg, fun e' => e e'.symm⟩
  · rintro (rfl | ⟨h, hne⟩)
    · exact get_mem (by rw [get_put]; simp)
    · exact get_mem (by rw [get_put, if_neg (fun e => hne e.symm)]; exact get_of_mem hn h)
theorem map_put {β : Type} (f : Int → α → β) (L : List (Int × α)) (k : Int) (v : α) : (put L k v).map (fun p => (p.1, f p.1 p.2)) = put (L.map fun p => (p.1, f p.1 p.2)) k (f k v) := by
  induction L with
  | nil => rfl
  | cons p L ih =>
    obtain ⟨a, u⟩ := p
    by_cases h : a = k
    · subst h; simp [put]
    · simp [put, h, ih]
theorem get_map {β : Type} (f : Int → α → β) (L : List (Int × α)) (k : Int) : get (L.map fun p => (p.1, f p.1 p.2)) k = (get L k).map (f k) := by
  induction L with
  | nil => rfl
  | cons p L ih =>
    obtain ⟨a, u⟩ := p
    by_cases h : a = k
    · subst h; simp [get]
    · simp [get, h, ih]
theorem del_sublist (L : List (Int × α)) (k : Int) : (del L k).Sublist L := by
  induction L with
  | nil => exact List.Sublist.refl _
  | cons p L ih =>
    obtain ⟨a, u⟩ := p
    by_cases h : a = k
    · simp [del, h]
    · simp only [del, if_neg h]; exact ih.cons_cons _
theorem map_del {β : Type} (f : Int → α → β) (L : List (Int × α)) (k : Int) : (del L k).map (fun p => (p.1, f p.1 p.2)) = del (L.map fun p => (p.1, f p.1 p.2)) k := by
  induction L with
  | nil => rfl
  | cons p L ih =>
    obtain ⟨a, u⟩ := p
    by_cases h : a = k
    · subst h; simp [del]
    · simp [del, h, ih]
theorem get_del {L : List (Int × α)} (hn : (L.map (·.1)).Nodup) (k x : Int) : get (del L k) x = if k = x then none else get L x := by
  induction L with
  | nil => simp [del, get]
  | cons p L ih =>
    obtain ⟨a, u⟩ := p
    simp only [List.map_cons, List.nodup_cons] at hn
    by_cases h : a = k
    · subst h
      by_cases h2 : a = x
      · subst h2; simp [del, get_none.2 hn.1]
      · simp [del, get, h2]
    · by_cases h2 : a = x
      · subst h2
        have : ¬ k = a := fun e => h e.symm
        simp [del, get, h, this]
      · simp [del, get, h, h2, ih hn.2]
theorem nodup_del {L : List (Int × α)} (hn : (L.map (·.1)).Nodup) (k : Int) : ((del L k).map (·.1)).Nodup := hn.sublist ((del_sublist L k).map _)
theorem mem_del {L : List (Int × α)} (hn : (L.map (·.1)).Nodup) {k : Int} {p : Int × α} : p ∈ del L k ↔ p ∈ L ∧ p.1 ≠ k := by
  constructor
  · intro h
    refine ⟨(del_sublist L k).subset h, fun e => ?_⟩
    have := get_of_mem (nodup_del hn k) (k := p.1) (v := p.2) h
    rw [get_del hn, if_pos e.symm] at this
    cases this
  · rintro ⟨h, hne⟩
    exact get_mem (by rw [get_del hn, if_neg (fun e => hne e.symm)]; exact get_of_mem hn h)
theorem put_same {L : List (Int × α)} {k : Int} {v : α} (h : get L k = some v) : put L k v = L := by
  induction L with
  | nil => simp [get] at h
  | cons p L ih =>
    obtain ⟨a, u⟩ := p
    by_cases h2 : a = k
    · simp [get, h2] at h; simp [put, h2, h]
    · simp [get, h2] at h; simp [put, h2, ih h]
end
end Go.Proofs.Ytkifgoadbnpofaa
