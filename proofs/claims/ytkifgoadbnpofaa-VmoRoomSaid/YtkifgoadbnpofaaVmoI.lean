/- Walks of layer 8: an object more (add). -/
import Derived.Test.YtkifgoadbnpofaaVmoH
import Derived.Deep.RegionLaw
namespace Go.Proofs.Ytkifgoadbnpofaa
open Go Go.RowKit
set_option maxRecDepth 100000

/-- append at a step of a region that draws its order. -/
theorem step_append_row {P : Program} {w : World} {ops : Array Oper} {o : Oper} {a : Act} {K : Act → World → Prop} {Q : Exit → Act → World → Prop} {E : Prop} (hgd : o.guard = none) (s x : Operand) (t : TypeId)
    (ho : o.op = .call { callee := .builtin .append, args := #[s, x], argTypes := #[t, t] })
    (e : TypeId) (i : TypeInfo) (z : Value) (size bytes : Nat) (ht : P.underlying t = some (.slice e)) (hi : P.info? e = some i) (hz : i.zero = some z)
    (hsize : i.size = size) (hby : i.bytes = bytes) (hzs : z.cells.size = size) (hsz : 0 < size)
    {v : Value} {n : Nat} {xs : List Value} (hs : a.eval s = v) (hown : Row w e size v n xs) {xv : Value} {m : Nat} {news : List Value} (hxv : a.eval x = xv) (hx : Src w size xv m news)
    (h63 : n + m ≤ maxLen) (hbytes : (n + m) * bytes ≤ 140737488355328)
    (h : ∀ v' w', Row w' e size v' (n + m) (xs ++ news) → w.grownBy w' v.ownBlock → ((v'.ownBlock = v.ownBlock) ∨ v'.ownBlock = some w.heap.size) → (m = 0 → v' = v) → K (a.put o.dst v') w') :
    if Region.wanted o (yielded ops a.tmps) = true then Oper.wp P o a w K Q else E := by
  have hw : Region.wanted o (yielded ops a.tmps) = true := by simp [Region.wanted, hgd]
  rw [if_pos hw]
  obtain ⟨v', w', hr, h2, h3, h4, h5⟩ := run_append_row (P := P) w t o.type e i z size bytes ht hi hz hsize hby hzs hsz hown hx h63 hbytes
  unfold Oper.wp execOp
  simp only [ho, resolve, invoke, builtin, Sem.run_bind, Sem.run_pure, Result.andThen_ok, List.map_toArray, List.map_cons, List.map_nil, hs, hxv, hr]
  exact h v' w' h2 h3 h4 h5

/-- The places with one object more; with another slice of children. -/
def Lay.add (Y : Lay) (id : Int) (b mb : Nat) (sl : Bool) : Lay :=
  { Y with blk := fun k => if k = id then b else Y.blk k, mb := fun k => if k = id then mb else Y.mb k, cs := fun k => if k = id then .slice none 0 0 else Y.cs k, of := fun k => Y.of k ∨ k = b ∨ (sl = false ∧ k = mb) }
def Lay.setCs (Y : Lay) (id : Int) (v : Value) : Lay := { Y with cs := fun k => if k = id then v else Y.cs k, of := fun k => Y.of k ∨ v.ownBlock = some k }

/-- What a call leaves: the set stands, in its old blocks or in new ones. -/
def VUpd (Y : Lay) (S' : Vset) (pf : Nat → Prop) (w w' : World) : Prop :=
  ∃ Y' pv' pf', VRep w' Y' S' pv' pf' ∧ Y'.s = Y.s ∧ Mods (fun k => pf k ∨ Y.of k) w w' ∧ ∀ k, pf' k ∨ Y'.of k → pf k ∨ Y.of k ∨ w.heap.size ≤ k
theorem VKeep.upd {Y : Lay} {S' : Vset} {pf : Nat → Prop} {w w' : World} (h : VKeep Y S' pf w w') : VUpd Y S' pf w w' := by
  obtain ⟨pv', pf', R, M, hf⟩ := h
  refine ⟨Y, pv', pf', R, rfl, M, fun k hk => ?_⟩
  rcases hk with hk | hk
  · rcases hf k hk with h | h
    · exact .inl h
    · exact .inr (.inr h)
  · exact .inr (.inl hk)

section
variable {w : World} {Y : Lay} {S : Vset} {pv : Value} {pf : Nat → Prop}
theorem VRep.add (R : VRep w Y S pv pf) {id : Int} {b mb : Nat} {o : Vobj} (hid : S.at_ id = none) (hk : o.kids = []) (hfr : o.frames = []) {w' : World} (hs : w.heap.size ≤ w'.heap.size)
    (hb : ¬ Y.of b ∧ ¬ pf b ∧ b < w'.heap.size) (hmb : o.slice = false → ¬ Y.of mb ∧ ¬ pf mb ∧ mb < w'.heap.size)
    (hkeep : ∀ k, (pf k ∨ Y.of k) → k ≠ Y.s → k ≠ Y.m → w'.heap[k]? = w.heap[k]?)
    (htop : w'.heap[Y.s]? = some (.cells #[ptr Y.pb, .map (some Y.m), i64 S.most, i64 id] tSet (0, 0)))
    (hmap : MapAt w' Y.m (put (obs S Y) id (ptr b)))
    (hhdr : w'.heap[b]? = some (.cells (ocells o mb (.slice none 0 0)) tVobj (0, 0)))
    (hfrs : o.slice = false → MapAt w' mb []) : VRep w' (Y.add id b mb o.slice) { S with last := id, objs := put S.objs id o } pv pf := by
  have hput : put S.objs id o = S.objs ++ [(id, o)] := put_of_none _ _ _ hid
  have hnk : ∀ p ∈ S.objs, p.1 ≠ id := fun p hp h => get_none.1 hid (h ▸ List.mem_map.2 ⟨p, hp, rfl⟩)
  have hmem : ∀ p, p ∈ put S.objs id o → (p ∈ S.objs ∧ p.1 ≠ id) ∨ p = (id, o) := by
    intro p hp
    rw [hput, List.mem_append, List.mem_singleton] at hp
    rcases hp with hp | hp
    · exact .inl ⟨hp, hnk p hp⟩
    · exact .inr hp
  have hobs : obs { S with last := id, objs := put S.objs id o } (Y.add id b mb o.slice) = put (obs S Y) id (ptr b) := by
    show (put S.objs id o).map (fun p => (p.1, ptr ((Y.add id b mb o.slice).blk p.1))) = _
    rw [hput, List.map_append, put_of_none (obs S Y) id _ (by rw [R.look, hid]; rfl)]
    congr 1
    · apply List.map_congr_left
      intro p hp
      simp [Lay.add, hnk p hp]
    · simp [Lay.add]
  refine ⟨htop, R.pool.keep hs (fun k hk => hkeep k (.inl hk) (fun h => R.sep k hk (h ▸ R.fs)) (fun h => R.sep k hk (h ▸ R.fm))), by rw [hobs]; exact hmap, ?_, ?_, ?_, ?_, ?_, ?_, ?_, ?_, nodup_put R.nodup _ _, ?_, .inl R.fs, .inl R.fm, ?_, ?_, ?_, ?_⟩
  · intro p hp
    rcases hmem p hp with ⟨h1, h2⟩ | rfl
    · simp only [Lay.add, if_neg h2]
      rw [hkeep _ (.inr (R.fh p h1)) (Ne.symm (R.s_ne h1)) (R.m_ne h1)]
      exact R.hdr p h1
    · simpa [Lay.add] using hhdr
  · intro p hp hsl
    rcases hmem p hp with ⟨h1, h2⟩ | rfl
    · simp only [Lay.add, if_neg h2]
      exact (R.frs p h1 hsl).of_block (hkeep _ (.inr (R.ff p h1 hsl)) (Ne.symm (R.sf_ne h1 hsl)) (R.mne p h1 hsl))
    · have := hfrs hsl
      simpa [Lay.add, hfr, encI] using this
  · intro p hp
    rcases hmem p hp with ⟨h1, h2⟩ | rfl
    · simp only [Lay.add, if_neg h2]
      exact (R.kids p h1).of_block (fun k hk _ => hkeep _ (.inr (R.fc p h1 k hk)) (R.c_ne_s h1 hk) (R.c_ne_m h1 hk))
    · simp only [Lay.add, if_true, hk]
      exact Row.nil _ _ _
  · intro p hp hsl
    rcases hmem p hp with ⟨h1, h2⟩ | rfl
    · exact R.nofr p h1 hsl
    · exact hfr
  · intro p hp q hq e
    rcases hmem p hp with ⟨h1, h2⟩ | rfl <;> rcases hmem q hq with ⟨h3, h4⟩ | rfl
    · simp only [Lay.add, if_neg h2, if_neg h4] at e
      exact R.inj p h1 q h3 e
    · simp only [Lay.add, if_neg h2, if_true] at e
      exact absurd (e ▸ R.fh p h1) hb.1
    · simp only [Lay.add, if_neg h4, if_true] at e
      exact absurd (e.symm ▸ R.fh q h3) hb.1
    · rfl
  · intro p hp q hq s1 s2 e
    rcases hmem p hp with ⟨h1, h2⟩ | rfl <;> rcases hmem q hq with ⟨h3, h4⟩ | rfl
    · simp only [Lay.add, if_neg h2, if_neg h4] at e
      exact R.minj p h1 q h3 s1 s2 e
    · simp only [Lay.add, if_neg h2, if_true] at e
      exact absurd (e ▸ R.ff p h1 s1) (hmb s2).1
    · simp only [Lay.add, if_neg h4, if_true] at e
      exact absurd (e.symm ▸ R.ff q h3 s2) (hmb s1).1
    · rfl
  · intro p hp s1
    rcases hmem p hp with ⟨h1, h2⟩ | rfl
    · simp only [Lay.add, if_neg h2]; exact R.mne p h1 s1
    · simp only [Lay.add, if_true]
      exact fun e => (hmb s1).1 (e ▸ R.fm)
  · intro p hp q hq hne k hk1
    rcases hmem p hp with ⟨h1, h2⟩ | rfl <;> rcases hmem q hq with ⟨h3, h4⟩ | rfl
    · simp only [Lay.add, if_neg h2, if_neg h4] at hk1 ⊢
      exact R.cinj p h1 q h3 hne k hk1
    · simp [Lay.add, Value.ownBlock]
    · simp [Lay.add, Value.ownBlock] at hk1
    · exact absurd rfl hne
  · intro k hk h
    rcases h with h | rfl | ⟨hs, rfl⟩
    · exact R.sep k hk h
    · exact hb.2.1 hk
    · exact (hmb hs).2.1 hk
  · intro p hp
    rcases hmem p hp with ⟨h1, h2⟩ | rfl
    · simp only [Lay.add, if_neg h2]; exact .inl (R.fh p h1)
    · simp only [Lay.add, if_true]; exact .inr (.inl trivial)
  · intro p hp s1
    rcases hmem p hp with ⟨h1, h2⟩ | rfl
    · simp only [Lay.add, if_neg h2]; exact .inl (R.ff p h1 s1)
    · simp only [Lay.add, if_true]; exact .inr (.inr ⟨s1, trivial⟩)
  · intro p hp k hk1
    rcases hmem p hp with ⟨h1, h2⟩ | rfl
    · simp only [Lay.add, if_neg h2] at hk1; exact .inl (R.fc p h1 k hk1)
    · simp [Lay.add, Value.ownBlock] at hk1
  · intro k hk
    rcases hk with hk | rfl | ⟨hs', rfl⟩
    · have := R.lt k hk; omega
    · exact hb.2.2
    · exact (hmb hs').2.2

/-- An object's children are others. -/
theorem VRep.setKids (R : VRep w Y S pv pf) {id : Int} {o : Vobj} (hg : S.at_ id = some o) {v' : Value} {kids' : List Int} {w' : World} (hs : w.heap.size ≤ w'.heap.size)
    (hkeep : ∀ k, (pf k ∨ Y.of k) → k ≠ Y.blk id → (Y.cs id).ownBlock ≠ some k → w'.heap[k]? = w.heap[k]?)
    (hhdr : w'.heap[Y.blk id]? = some (.cells (ocells o (Y.mb id) v') tVobj (0, 0))) (hrow : Row w' tInt 1 v' kids'.length (kids'.map i64))
    (hown : ∀ k, v'.ownBlock = some k → (Y.cs id).ownBlock = some k ∨ (¬ Y.of k ∧ ¬ pf k)) : VRep w' (Y.setCs id v') (S.set id { o with kids := kids' }) pv pf := by
  have hm := get_mem hg
  have hmem : ∀ p, p ∈ (S.set id { o with kids := kids' }).objs ↔ p = (id, { o with kids := kids' }) ∨ (p ∈ S.objs ∧ p.1 ≠ id) := fun p => mem_put R.nodup
  have hkeys : ∀ p ∈ (S.set id { o with kids := kids' }).objs, ∃ q ∈ S.objs, q.1 = p.1 ∧ p.2.slice = q.2.slice ∧ p.2.frames = q.2.frames ∧ (∀ b c, ocells p.2 b c = ocells q.2 b c) := by
    intro p hp
    rcases (hmem p).1 hp with rfl | ⟨h1, _⟩
    · exact ⟨_, hm, rfl, rfl, rfl, fun _ _ => rfl⟩
    · exact ⟨p, h1, rfl, rfl, rfl, fun _ _ => rfl⟩
  have hlt' : ∀ k, v'.ownBlock = some k → k < w'.heap.size := fun k hk => by obtain ⟨cur, hc⟩ := hrow.block hk; exact hp_lt hc
  have hnc : ∀ p ∈ S.objs, p.1 ≠ id → (Y.cs id).ownBlock ≠ some (Y.blk p.1) := fun p hp _ h => R.c_ne hm hp h rfl
  refine ⟨?_, R.pool.keep hs (fun k hk => hkeep k (.inl hk) (fun h => R.sep k hk (h ▸ R.fh _ hm)) (fun h => R.sep k hk (R.fc _ hm k h))), ?_, ?_, ?_, ?_, ?_, ?_, ?_, ?_, ?_, nodup_put R.nodup _ _, ?_, .inl R.fs, .inl R.fm, ?_, ?_, ?_, ?_⟩
  · show w'.heap[Y.s]? = _
    rw [hkeep _ (.inr R.fs) (R.s_ne hm) (fun h => R.c_ne_s hm h rfl)]; exact R.top
  · rw [show obs (S.set id { o with kids := kids' }) (Y.setCs id v') = obs S Y from obs_set (Y := Y) hg]
    exact R.map.of_block (hkeep _ (.inr R.fm) (Ne.symm (R.m_ne hm)) (fun h => R.c_ne_m hm h rfl))
  · intro p hp
    rcases (hmem p).1 hp with rfl | ⟨h1, h2⟩
    · simpa [Lay.setCs, ocells, framesV] using hhdr
    · show w'.heap[Y.blk p.1]? = _
      rw [hkeep _ (.inr (R.fh p h1)) (fun e => h2 (R.inj p h1 _ hm e)) (hnc p h1 h2)]
      simp only [Lay.setCs, if_neg h2]
      exact R.hdr p h1
  · intro p hp hsl
    obtain ⟨q, hq, e1, e2, e3, _⟩ := hkeys p hp
    rw [e2] at hsl
    show MapAt w' (Y.mb p.1) _
    rw [← e1, e3]
    exact (R.frs q hq hsl).of_block (hkeep _ (.inr (R.ff q hq hsl)) (Ne.symm (R.f_ne hm hq hsl)) (fun h => R.c_ne_f hm hq hsl h rfl))
  · intro p hp
    rcases (hmem p).1 hp with rfl | ⟨h1, h2⟩
    · simpa [Lay.setCs] using hrow
    · simp only [Lay.setCs, if_neg h2]
      exact (R.kids p h1).of_block (fun k hk _ => hkeep k (.inr (R.fc p h1 k hk)) (R.c_ne h1 hm hk) (fun h => R.cinj p h1 _ hm h2 k hk h))
  · intro p hp hsl
    obtain ⟨q, hq, e1, e2, e3, e4⟩ := hkeys p hp
    rw [e3]; exact R.nofr q hq (by rw [← e2]; exact hsl)
  · intro p hp q hq e
    obtain ⟨p', hp', e1, _⟩ := hkeys p hp
    obtain ⟨q', hq', e2, _⟩ := hkeys q hq
    change Y.blk p.1 = Y.blk q.1 at e
    rw [← e1, ← e2] at e ⊢
    exact R.inj p' hp' q' hq' e
  · intro p hp q hq s1 s2 e
    obtain ⟨p', hp', e1, f1, _⟩ := hkeys p hp
    obtain ⟨q', hq', e2, f2, _⟩ := hkeys q hq
    rw [f1] at s1; rw [f2] at s2
    change Y.mb p.1 = Y.mb q.1 at e
    rw [← e1, ← e2] at e ⊢
    exact R.minj p' hp' q' hq' s1 s2 e
  · intro p hp s1
    obtain ⟨p', hp', e1, f1, _⟩ := hkeys p hp
    rw [f1] at s1
    show Y.mb p.1 ≠ Y.m
    rw [← e1]
    exact R.mne p' hp' s1
  · intro p hp q hq hne k hk1
    rcases (hmem p).1 hp with rfl | ⟨h1, h2⟩ <;> rcases (hmem q).1 hq with rfl | ⟨h3, h4⟩
    · exact absurd rfl hne
    · simp only [Lay.setCs, if_true, if_neg h4] at hk1 ⊢
      rcases hown k hk1 with h | h
      · exact R.cinj _ hm q h3 (Ne.symm h4) k h
      · exact fun h' => h.1 (R.fc q h3 k h')
    · simp only [Lay.setCs, if_true, if_neg h2] at hk1 ⊢
      intro h'
      rcases hown k h' with h | h
      · exact R.cinj p h1 _ hm h2 k hk1 h
      · exact h.1 (R.fc p h1 k hk1)
    · simp only [Lay.setCs, if_neg h2, if_neg h4] at hk1 ⊢
      exact R.cinj p h1 q h3 hne k hk1
  · intro k hk h
    rcases h with h | h
    · exact R.sep k hk h
    · rcases hown k h with h' | h'
      · exact R.sep k hk (R.fc _ hm k h')
      · exact h'.2 hk
  · intro p hp
    obtain ⟨p', hp', e1, _⟩ := hkeys p hp
    show Y.of (Y.blk p.1) ∨ _
    rw [← e1]; exact .inl (R.fh p' hp')
  · intro p hp s1
    obtain ⟨p', hp', e1, f1, _⟩ := hkeys p hp
    rw [f1] at s1
    show Y.of (Y.mb p.1) ∨ _
    rw [← e1]
    exact .inl (R.ff p' hp' s1)
  · intro p hp k hk1
    rcases (hmem p).1 hp with rfl | ⟨h1, h2⟩
    · simp only [Lay.setCs, if_true] at hk1; exact .inr hk1
    · simp only [Lay.setCs, if_neg h2] at hk1; exact .inl (R.fc p h1 k hk1)
  · intro k hk
    rcases hk with hk | hk
    · have := R.lt k hk; omega
    · exact hlt' k hk
end
end Go.Proofs.Ytkifgoadbnpofaa
