/- Layer 8 in the middle of a law: what each call does to the set, in one form; Same, Copy of the reference. -/
import Derived.Test.YtkifgoadbnpofaaVmoM
import Derived.Test.YtkifgoadbnpofaaVmoGood3
namespace Go.Proofs.Ytkifgoadbnpofaa
open Go Go.RowKit
set_option maxRecDepth 100000

/-- A set of objects at s, in blocks fp, all of which the law has made; nothing that was there ahead of the law has changed. -/
structure Vs (w0 w : World) (s : Nat) (S : Vset) (fp : Nat → Prop) : Prop where
  rep : ∃ Y pv pf, Y.s = s ∧ VRep w Y S pv pf ∧ ∀ k, (pf k ∨ Y.of k) → fp k
  mods : Mods (fun _ => False) w0 w
  old : ∀ k, fp k → w0.heap.size ≤ k
  lt : ∀ k, fp k → k < w.heap.size
def VsUpd (w0 w w' : World) (s : Nat) (S' : Vset) (fp : Nat → Prop) : Prop := ∃ fp', Vs w0 w' s S' fp' ∧ Mods fp w w' ∧ ∀ k, fp' k → fp k ∨ w.heap.size ≤ k
/-- A slice of bytes beside it. -/
def Beside (w : World) (fp : Nat → Prop) (v : Value) (l : List Int) : Prop := BytesAt w v l ∧ ∀ k, Live v l k → ¬ fp k
section
variable {w0 w w' : World} {s : Nat} {S S' : Vset} {fp fp' : Nat → Prop} {v : Value} {l : List Int}
theorem Vs.upd (h : Vs w0 w s S fp) {Y : Lay} {pf : Nat → Prop} (hs : Y.s = s) (hf : ∀ k, (pf k ∨ Y.of k) → fp k) (u : VUpd Y S' pf w w') : VsUpd w0 w w' s S' fp := by
  obtain ⟨Y', pv', pf', R', e, M, hn⟩ := u
  have M' : Mods fp w w' := M.mono (fun k hk => .inl (hf k hk))
  refine ⟨fun k => (pf' k ∨ Y'.of k), ⟨⟨Y', pv', pf', e.trans hs, R', fun k hk => hk⟩, h.mods.trans M' (fun k hk => .inr (h.old k hk)), fun k hk => ?_, fun k hk => ?_⟩, M', fun k hk => ?_⟩
  · rcases hn k hk with h1 | h1 | h1
    · exact h.old k (hf k (.inl h1))
    · exact h.old k (hf k (.inr h1))
    · have := h.mods.size; omega
  · rcases hk with hk | hk
    · exact R'.pool.lt k hk
    · exact R'.lt k hk
  · rcases hn k hk with h1 | h1 | h1
    · exact .inl (hf k (.inl h1))
    · exact .inl (hf k (.inr h1))
    · exact .inr h1
/-- Other memory changes. -/
theorem Vs.step (h : Vs w0 w s S fp) {F : Nat → Prop} (M : Mods F w w') (hF : ∀ k, F k → ¬ fp k ∧ w0.heap.size ≤ k) : Vs w0 w' s S fp := by
  obtain ⟨Y, pv, pf, e, R, hf⟩ := h.rep
  refine ⟨⟨Y, pv, pf, e, R.mods M (fun k hk hk2 => (hF k hk2).1 (hf k hk)), hf⟩, h.mods.trans M (fun k hk => .inr (hF k hk).2), h.old, fun k hk => Nat.lt_of_lt_of_le (h.lt k hk) M.size⟩
theorem Vs.quiet (h : Vs w0 w s S fp) (M : Mods (fun _ => False) w w') : Vs w0 w' s S fp := h.step M (fun _ h => h.elim)
theorem Vs.alloc (h : Vs w0 w s S fp) (o : Obj) : Vs w0 (w.alloc o) s S fp := h.quiet ((Mods.refl _ _).alloc o)
theorem Beside.alloc (h : Beside w fp v l) (o : Obj) : Beside (w.alloc o) fp v l := ⟨h.1.mods ((Mods.refl (fun _ => False) _).alloc o) (fun _ _ h => h), h.2⟩
theorem Beside.quiet (h : Beside w fp v l) (M : Mods (fun _ => False) w w') : Beside w' fp v l := ⟨h.1.mods M (fun _ _ h => h), h.2⟩
theorem Beside.next (h : Beside w fp v l) (M : Mods fp w w') (hn : ∀ k, fp' k → fp k ∨ w.heap.size ≤ k) : Beside w' fp' v l :=
  ⟨h.1.mods M h.2, fun k hk hf => by
    rcases hn k hf with h1 | h1
    · exact h.2 k hk h1
    · have := h.1.live_lt hk; omega⟩
theorem Beside.arg (h : Vs w0 w s S fp) (hv : BytesAt w0 v l) : Beside w fp v l :=
  ⟨hv.mods h.mods (fun _ _ h => h), fun k hk hf => by
    have := h.old k hf
    have := hv.live_lt hk
    omega⟩
theorem Beside.new (h : Vs w0 w s S fp) (hn : NewBytes w l v w') (hm : l.length ≤ maxLen) : Beside w' fp v l :=
  ⟨BytesAt.ofRow hn.1 hm, fun k hk hf => by
    have := hn.2.1 k hk.2
    have := h.lt k hf
    omega⟩
theorem Mods.empty_of {F : Nat → Prop} {a b : World} (h : Mods F a b) (hF : ∀ k, F k → a.heap.size ≤ k) : Mods (fun _ => False) a b := h.mono (fun k hk => .inr (hF k hk))

def VsNew (w0 w : World) (n o : Int) (e : Ending) (w' : World) : Prop := ∃ s fp, e = .returned (ptr s) ∧ Vs w0 w' s ⟨⟨[], n, 0⟩, [], o, 0⟩ fp ∧ Mods (fun _ => False) w w' ∧ ∀ k, fp k → w.heap.size ≤ k
theorem vs_new (M : Mods (fun _ => False) w0 w) {n o : Int} (h0 : 0 ≤ n) (h1 : n ≤ 65536) (h2 : 0 ≤ o) (h3 : o ≤ 65536) : Calls Try.prog 12 #[i64 n, i64 o] w (VsNew w0 w n o) := by
  refine (vnew_calls h0 h1 h2 h3).mono ?_
  rintro e w' ⟨Y, pf, rfl, R, M', hf⟩
  refine ⟨Y.s, fun k => pf k ∨ Y.of k, rfl, ⟨⟨Y, _, pf, rfl, R, fun _ h => h⟩, M.trans M' (fun _ h => h.elim), fun k hk => ?_, fun k hk => ?_⟩, M', hf⟩
  · have := hf k hk; have := M.size; omega
  · rcases hk with hk | hk
    · exact R.pool.lt k hk
    · exact R.lt k hk
def VsMade (w0 w : World) (s : Nat) (fp : Nat → Prop) (r : Vset × Int × Int) (e : Ending) (w' : World) : Prop := e = .returned (.tuple #[i64 r.2.1, i64 r.2.2]) ∧ VsUpd w0 w w' s r.1 fp
theorem Vs.create (h : Vs w0 w s S fp) (G : Good S) (hl : S.last < 4611686018427387904) (n : Int) : Calls Try.prog 14 #[ptr s, i64 n] w (VsMade w0 w s fp (S.create n)) := by
  obtain ⟨Y, pv, pf, rfl, R, hf⟩ := h.rep
  exact (vcreate_calls R G hl n).mono (by rintro e w' ⟨rfl, u⟩; exact ⟨rfl, h.upd rfl hf u⟩)
theorem Vs.slice (h : Vs w0 w s S fp) (G : Good S) (hl : S.last < 4611686018427387904) (id a n : Int) : Calls Try.prog 18 #[ptr s, i64 id, i64 a, i64 n] w (VsMade w0 w s fp (S.slice id a n)) := by
  obtain ⟨Y, pv, pf, rfl, R, hf⟩ := h.rep
  exact (vslice_calls R G hl id a n).mono (by rintro e w' ⟨rfl, u⟩; exact ⟨rfl, h.upd rfl hf u⟩)
theorem Vs.snapshot (h : Vs w0 w s S fp) (G : Good S) (hl : S.last < 4611686018427387904) (id a n : Int) : Calls Try.prog 17 #[ptr s, i64 id, i64 a, i64 n] w (VsMade w0 w s fp (S.snapshot id a n)) := by
  obtain ⟨Y, pv, pf, rfl, R, hf⟩ := h.rep
  exact (vsnapshot_calls R G hl id a n).mono (by rintro e w' ⟨rfl, u⟩; exact ⟨rfl, h.upd rfl hf u⟩)
def VsOne (w0 w : World) (s : Nat) (fp : Nat → Prop) (r : Vset × Int) (e : Ending) (w' : World) : Prop := e = .returned (i64 r.2) ∧ VsUpd w0 w w' s r.1 fp
theorem Vs.write (h : Vs w0 w s S fp) (G : Good S) (id a : Int) (hv : Beside w fp v l) : Calls Try.prog 15 #[ptr s, i64 id, i64 a, v] w (VsOne w0 w s fp (S.write id a l)) := by
  obtain ⟨Y, pv, pf, rfl, R, hf⟩ := h.rep
  exact (vwrite_calls R G id a hv.1 (fun k hk => ⟨fun h1 => hv.2 k hk (hf k (.inl h1)), fun h1 => hv.2 k hk (hf k (.inr h1)), hv.1.live_lt hk⟩)).mono (by rintro e w' ⟨rfl, u⟩; exact ⟨rfl, h.upd rfl hf u.upd⟩)
theorem Vs.read (h : Vs w0 w s S fp) (G : Good S) (id a n : Int) : Calls Try.prog 16 #[ptr s, i64 id, i64 a, i64 n] w (BytesPost w (S.read id a n).1 (S.read id a n).2) := by
  obtain ⟨Y, pv, pf, rfl, R, hf⟩ := h.rep
  exact vread_calls R G id a n
theorem Vs.info (h : Vs w0 w s S fp) (id : Int) : Calls Try.prog 21 #[ptr s, i64 id] w fun e w' => e = .returned (.tuple #[.agg (infoCells (S.at_ id)), .bool (S.at_ id).isSome]) ∧ Mods (fun _ => False) w w' := by
  obtain ⟨Y, pv, pf, rfl, R, hf⟩ := h.rep
  exact vinfo_calls R id
theorem Vs.count (h : Vs w0 w s S fp) : Calls Try.prog 31 #[ptr s] w fun e w' => e = .returned (i64 S.objs.length) ∧ w' = w := by
  obtain ⟨Y, pv, pf, rfl, R, hf⟩ := h.rep
  exact vcount_calls R
theorem Vs.room (h : Vs w0 w s S fp) (G : Good S) : Calls Try.prog 23 #[ptr s] w fun e w' => e = .returned (i64 (S.pool.cap - S.pool.used)) ∧ ∃ n, w' = w.drewN n := by
  obtain ⟨Y, pv, pf, rfl, R, hf⟩ := h.rep
  rw [← G.roomw]
  exact vroom_calls R
end
end Go.Proofs.Ytkifgoadbnpofaa
