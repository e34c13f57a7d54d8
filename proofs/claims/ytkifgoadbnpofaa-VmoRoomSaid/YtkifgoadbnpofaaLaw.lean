/- How a law's walk becomes its statement: the arguments read behind the call as they did; slices of bytes among them. -/
import Derived.Test.YtkifgoadbnpofaaSame
import Derived.Test.YtkifgoadbnpofaaRows
import Derived.ProofKit
import Derived.OpenShut
import Derived.Lib.SmallJoins
namespace Go.Proofs.Ytkifgoadbnpofaa
open Go Go.RowKit Go.ChangeShapes Go.WideShapes

set_option maxRecDepth 100000
theorem law_own : ownKnob Try.prog.godebug = none := by kernel_rfl
theorem law_laid : laidOutB Try.prog = true := by kernel_rfl

section
variable {H : Type} {enc : TypeId × Value → H} {W W' : World}
theorem trodAll_below (hb : Below W.heap.size W W') (ts : List TypeId) : ∀ {vs : List Value} {ds : List (DataW H)} {ps : List MemPlace}, (∀ t ∈ ts, Try.prog.readableRec t = true ∧ t < Try.prog.types.size) →
    DataW.TrodAll enc Try.prog W 0 (fun _ => true) true ts vs ds ps → (∀ x ∈ ps, x.block < W.heap.size) → DataW.TrodAll enc Try.prog W' 0 (fun b => decide (b < W.heap.size)) true ts vs ds ps := by
  induction ts with
  | nil =>
    intro vs ds ps _ h _
    obtain ⟨rfl, rfl, rfl⟩ := trodAll_nil h
    exact trodAll_mk0
  | cons t ts ih =>
    intro vs ds ps hts h hp
    obtain ⟨v, vs', d, ds', p, q, rfl, rfl, rfl, h1, h2⟩ := trodAll_cons h
    have ht := hts t List.mem_cons_self
    exact trodAll_cons_mk (Below.trod law_laid ht.1 ht.2 h1 hb (fun x hx => hp x (List.mem_append_left _ hx))) (ih (fun u hu => hts u (List.mem_cons_of_mem _ hu)) h2 (fun x hx => hp x (List.mem_append_right _ hx)))
theorem law_post {f : Func} {s : ChangeSpec} {args : Array Value} {ds : List (DataW H)} {before : List MemPlace} (hts : (f.params.toList.all fun t => Try.prog.readableRec t && decide (t < Try.prog.types.size)) = true)
    (hr : f.resultTypes = #[4]) (hv : s.vars = []) (hW : DataW.Whole enc Try.prog f.params.toList s.vars false W args.toList ds [] before) (hs : s.fn H (ds ++ []) = { results := [.lit (.bool true)], args := ds }) (hb : Below W.heap.size W W') :
    s.post enc Try.prog f false true false false W args (.bool true) W' := by
  have hW' := hW
  obtain ⟨p, q, hA, hV, rfl, _, _⟩ := hW
  have hlt : ∀ x ∈ p ++ q, x.block < W.heap.size := fun x hx => hW'.lt x hx
  rw [hv] at hV
  obtain ⟨_, rfl⟩ := trodVars_none hV
  refine ⟨ds, [], _, [], p, [], hW', ?_, ?_, ?_, hb.frame _, fun h => by cases h⟩
  · rw [hs, hr]; exact trodAll_mk1 (shut_bool Try.underlying4 true)
  · rw [hs]; exact trodAll_below hb _ (fun t ht => by have := List.all_eq_true.1 hts t ht; simp only [Bool.and_eq_true, decide_eq_true_eq] at this; exact this) hA (fun x hx => hlt x (List.mem_append_left _ hx))
  · rw [hv, hs]; rfl
theorem lits_nth (zs : List Int) (k : Nat) : nth zs k = zs.getD k 0 := rfl
/-- A slice of bytes among the arguments. -/
theorem bytes_of_trod {sp : Nat → Bool} {fuel : Nat} {v : Value} {x : DataW H × List MemPlace} (h : DataW.trod enc Try.prog W 0 sp true fuel 22 [v] = some x) : ∃ l, BytesAt W v l ∧ (∀ n ∈ l, 0 ≤ n ∧ n ≤ 255) := by
  have hc : Try.prog.cellsOf 5 = 1 := by kernel_rfl
  rcases open_ints Try.underlying22 Try.underlying5 hc h with ⟨hcs, _⟩ | ⟨a, len, cap, zs, hcs, _, hl, hm, hz, _, hcell, hwz⟩
  · simp at hcs
    subst hcs
    exact ⟨[], ⟨none, 0, rfl, Nat.le_refl _, by simp, fun h => by simp at h⟩, by simp⟩
  · simp at hcs
    subst hcs
    have hzl : len ≤ zs.length := by rw [hz]; split <;> omega
    have hlen : (zs.take len).length = len := by simp; omega
    refine ⟨zs.take len, ⟨some a, cap, by rw [hlen], by omega, by rw [hlen]; omega, fun h0 => ?_⟩, fun n hn => bounds_u8 (hwz n (List.mem_of_mem_take hn))⟩
    rw [hlen] at h0
    have h00 := hcell 0 (by omega)
    have hsp : a.spot = none := by
      rw [show a.add 0 = a from rfl] at h00
      unfold World.cell? at h00
      split at h00
      · split at h00
        · cases h00
        · rename_i hs; simpa using hs
      · cases h00
    obtain ⟨b, off, spot⟩ := a
    simp only at hsp
    subst hsp
    refine ⟨b, off, rfl, World.block_lt_of_cell? _ _ h00, fun j hj => ?_⟩
    rw [hlen] at hj
    have := hcell j (by omega)
    rw [add_lit'] at this
    rw [this]
    unfold nth
    simp only [List.getD_eq_getElem?_getD]
    rw [List.getElem?_take_of_lt hj]
    rfl
end
end Go.Proofs.Ytkifgoadbnpofaa
