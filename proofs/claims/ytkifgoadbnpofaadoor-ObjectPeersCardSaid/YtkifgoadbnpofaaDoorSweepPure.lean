/- The worklist of layer 18, as plain laws: each round lowers a weight; what one round makes. -/
import Derived.Test.YtkifgoadbnpofaaDoorObjPure
namespace Go.Proofs.YtkifgoadbnpofaaDoor
open Go Go.RowKit

theorem at_set (S : Obs) (id x : Int) (h : Hdr) : (S.set id h).at x = if id = x then some h else S.at x := get_put _ _ _ _

theorem weight_put : ∀ (L : List (Int × Hdr)) (id : Int) (h h' : Hdr), get L id = some h → h'.bag.length = h.bag.length → weight (put L id h') = weight L
  | [], id, h, h', hg, _ => by simp [get] at hg
  | (a, u) :: L, id, h, h', hg, hb => by
    by_cases e : a = id
    · simp only [get, e, if_true, Option.some.injEq] at hg
      subst hg
      simp [put, e, weight, hb]
    · simp only [get, if_neg e] at hg
      have := weight_put L id h h' hg hb
      simp only [weight] at this
      simp [put, e, weight, this]
theorem weight_del : ∀ (L : List (Int × Hdr)) (id : Int) (h : Hdr), get L id = some h → weight (del L id) + 1 + h.bag.length = weight L
  | [], id, h, hg => by simp [get] at hg
  | (a, u) :: L, id, h, hg => by
    by_cases e : a = id
    · simp only [get, e, if_true, Option.some.injEq] at hg
      subst hg
      simp [del, e, weight]; omega
    · simp only [get, if_neg e] at hg
      have := weight_del L id h hg
      simp only [weight] at this
      simp [del, e, weight]; omega
theorem weight_set (S : Obs) {id : Int} {h h' : Hdr} (hg : S.at id = some h) (hb : h'.bag.length = h.bag.length) : weight (S.set id h').all = weight S.all := weight_put S.all id h h' hg hb

theorem drop1_at (S : Obs) (id x : Int) : ((S.drop1 id).at x).isSome = (S.at x).isSome := by
  unfold Obs.drop1
  cases h : S.at id with
  | none => rfl
  | some y =>
    simp only [at_set]
    by_cases e : id = x
    · subst e; simp [h]
    · simp [e]
theorem drop1_weight (S : Obs) (id : Int) : weight (S.drop1 id).all = weight S.all := by
  unfold Obs.drop1
  cases h : S.at id with
  | none => rfl
  | some y => exact weight_set S h rfl
theorem drops_eq : ∀ (l : List Int) (S : Obs), S.drops l = (l.foldl Obs.drop1 S, l.filter fun c => (S.at c).isSome)
  | [], S => rfl
  | c :: r, S => by
    have h := drops_eq r (S.drop1 c)
    have e : (r.filter fun d => ((S.drop1 c).at d).isSome) = r.filter fun d => (S.at d).isSome := List.filter_congr fun d _ => by rw [drop1_at]
    rw [e] at h
    simp only [Obs.drops, h, List.foldl_cons, List.filter_cons]
theorem foldl_drop_at (l : List Int) (S : Obs) (x : Int) : ((l.foldl Obs.drop1 S).at x).isSome = (S.at x).isSome := by
  induction l generalizing S with
  | nil => rfl
  | cons y l ih => rw [List.foldl_cons, ih, drop1_at]
theorem foldl_drop_weight (l : List Int) (S : Obs) : weight (l.foldl Obs.drop1 S).all = weight S.all := by
  induction l generalizing S with
  | nil => rfl
  | cons y l ih => rw [List.foldl_cons, ih, drop1_weight]
theorem show_at (S : Obs) (id clr st x : Int) : ((S.show id clr st).1.at x).isSome = (S.at x).isSome := by
  unfold Obs.show
  cases h : S.at id with
  | none => rfl
  | some y =>
    simp only
    split
    · rfl
    · simp only [at_set]
      by_cases e : id = x
      · subst e; simp [h]
      · simp [e]
theorem show_weight (S : Obs) (id clr st : Int) : weight (S.show id clr st).1.all = weight S.all := by
  unfold Obs.show
  cases h : S.at id with
  | none => rfl
  | some y =>
    simp only
    split
    · rfl
    · exact weight_set S h rfl
theorem show_len (S : Obs) (id clr st : Int) : (S.show id clr st).2.length ≤ 1 := by
  unfold Obs.show
  cases S.at id with
  | none => simp
  | some y =>
    simp only
    split <;> simp
theorem unpeer_at (S : Obs) (p x : Int) : ((S.unpeer p).1.at x).isSome = (S.at x).isSome := by
  unfold Obs.unpeer
  cases h : S.at p with
  | none => rfl
  | some y =>
    simp only [show_at, at_set]
    by_cases e : p = x
    · subst e; simp [h]
    · simp [e]
theorem unpeer_weight (S : Obs) (p : Int) : weight (S.unpeer p).1.all = weight S.all := by
  unfold Obs.unpeer
  cases h : S.at p with
  | none => rfl
  | some y => simp only [show_weight]; exact weight_set S h rfl
theorem unpeer_len (S : Obs) (p : Int) : (S.unpeer p).2.length ≤ 1 := by
  unfold Obs.unpeer
  cases S.at p with
  | none => simp
  | some y => exact show_len _ _ _ _

theorem end_weight {S : Obs} {id : Int} {h : Hdr} (hg : S.at id = some h) : weight (S.endOne id h).1.all + 1 + h.bag.length = weight S.all ∧ (S.endOne id h).2.2.length ≤ h.bag.length ∧ (S.endOne id h).2.1.length ≤ 2 := by
  have h1 := weight_del S.all id h hg
  refine ⟨?_, ?_, ?_⟩
  · simp only [Obs.endOne, drops_eq, foldl_drop_weight, unpeer_weight]; exact h1
  · simp only [Obs.endOne, drops_eq]; exact List.length_filter_le _ _
  · have := unpeer_len (S.del id) h.peer
    simp only [Obs.endOne, List.length_cons]; omega

theorem sweepF_stable : ∀ (n n' : Nat) (S : Obs) (work : List Int), work.length + weight S.all < n → work.length + weight S.all < n' → Obs.sweepF n S work = Obs.sweepF n' S work
  | 0, _, _, _, h, _ => by omega
  | _, 0, _, _, _, h => by omega
  | n + 1, n' + 1, S, [], _, _ => rfl
  | n + 1, n' + 1, S, id :: rest, h, h' => by
    simp only [List.length_cons] at h h'
    simp only [Obs.sweepF]
    cases hg : S.at id with
    | none => exact sweepF_stable n n' S rest (by omega) (by omega)
    | some x =>
      simp only
      split
      · exact sweepF_stable n n' S rest (by omega) (by omega)
      · obtain ⟨h1, h2, _⟩ := end_weight hg
        rw [sweepF_stable n n' (S.endOne id x).1 (rest ++ (S.endOne id x).2.2) (by rw [List.length_append]; omega) (by rw [List.length_append]; omega)]
theorem sweep_nil (S : Obs) : S.sweep [] = (S, []) := rfl
theorem sweep_skip {S : Obs} {id : Int} {rest : List Int} (h : ∀ x, S.at id = some x → x.held = true) : S.sweep (id :: rest) = S.sweep rest := by
  unfold Obs.sweep
  rw [List.length_cons]
  show Obs.sweepF ((rest.length + 1 + weight S.all) + 1) S (id :: rest) = _
  simp only [Obs.sweepF]
  cases hg : S.at id with
  | none => exact sweepF_stable _ _ _ _ (by omega) (by omega)
  | some x => simp only [h x hg, if_true]; exact sweepF_stable _ _ _ _ (by omega) (by omega)
theorem sweep_end {S : Obs} {id : Int} {rest : List Int} {x : Hdr} (hg : S.at id = some x) (hh : x.held = false) :
    S.sweep (id :: rest) = (((S.endOne id x).1.sweep (rest ++ (S.endOne id x).2.2)).1, (S.endOne id x).2.1 ++ ((S.endOne id x).1.sweep (rest ++ (S.endOne id x).2.2)).2) := by
  obtain ⟨h1, h2, _⟩ := end_weight hg
  unfold Obs.sweep
  rw [List.length_cons]
  show Obs.sweepF ((rest.length + 1 + weight S.all) + 1) S (id :: rest) = _
  simp only [Obs.sweepF, hg, hh, Bool.false_eq_true, if_false]
  generalize S.endOne id x = r at *
  obtain ⟨S', ev, more⟩ := r
  simp only at h1 h2 ⊢
  rw [sweepF_stable (rest.length + 1 + weight S.all) ((rest ++ more).length + weight S'.all + 1) _ _ (by rw [List.length_append]; omega) (by omega)]
end Go.Proofs.YtkifgoadbnpofaaDoor
