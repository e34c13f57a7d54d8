/- How objects of memory (layer 8) lie in memory. -/
import Derived.Test.YtkifgoadbnpofaaVmoPure
namespace Go.Proofs.Ytkifgoadbnpofaa
open Go Go.RowKit

/-- Where a set lies: its struct, its pool, its map; each object's struct, map of frames, slice of children; the blocks of all that but the pool's. -/
structure Lay where
  s : Nat
  pb : Nat
  m : Nat
  blk : Int → Nat
  mb : Int → Nat
  cs : Int → Value
  of : Nat → Prop

def tSet : Nat := 75
def tVobj : Nat := 80
def tInt : Nat := 3
def framesV (o : Vobj) (mb : Nat) : Value := if o.slice then .map none else .map (some mb)
def ocells (o : Vobj) (mb : Nat) (cv : Value) : Array Value := #[i64 o.size, i64 o.parent, framesV o mb, cv, .bool o.slice, i64 o.from_, i64 o.depth, .bool o.dropped]
def encI (n : List (Int × Int)) : List (Int × Value) := n.map fun p => (p.1, i64 p.2)
def obs (S : Vset) (Y : Lay) : List (Int × Value) := S.objs.map fun p => (p.1, ptr (Y.blk p.1))

structure VRep (w : World) (Y : Lay) (S : Vset) (pv : Value) (pf : Nat → Prop) : Prop where
  top : w.heap[Y.s]? = some (.cells #[ptr Y.pb, .map (some Y.m), i64 S.most, i64 S.last] tSet (0, 0))
  pool : PRep w Y.pb S.pool pv pf
  map : MapAt w Y.m (obs S Y)
  hdr : ∀ p ∈ S.objs, w.heap[Y.blk p.1]? = some (.cells (ocells p.2 (Y.mb p.1) (Y.cs p.1)) tVobj (0, 0))
  frs : ∀ p ∈ S.objs, p.2.slice = false → MapAt w (Y.mb p.1) (encI p.2.frames)
  kids : ∀ p ∈ S.objs, Row w tInt 1 (Y.cs p.1) p.2.kids.length (p.2.kids.map i64)
  nofr : ∀ p ∈ S.objs, p.2.slice = true → p.2.frames = []
  inj : ∀ p ∈ S.objs, ∀ q ∈ S.objs, Y.blk p.1 = Y.blk q.1 → p.1 = q.1
  minj : ∀ p ∈ S.objs, ∀ q ∈ S.objs, p.2.slice = false → q.2.slice = false → Y.mb p.1 = Y.mb q.1 → p.1 = q.1
  mne : ∀ p ∈ S.objs, p.2.slice = false → Y.mb p.1 ≠ Y.m
  cinj : ∀ p ∈ S.objs, ∀ q ∈ S.objs, p.1 ≠ q.1 → ∀ k, (Y.cs p.1).ownBlock = some k → (Y.cs q.1).ownBlock ≠ some k
  nodup : (S.objs.map (·.1)).Nodup
  sep : ∀ k, pf k → ¬ Y.of k
  fs : Y.of Y.s
  fm : Y.of Y.m
  fh : ∀ p ∈ S.objs, Y.of (Y.blk p.1)
  ff : ∀ p ∈ S.objs, p.2.slice = false → Y.of (Y.mb p.1)
  fc : ∀ p ∈ S.objs, ∀ k, (Y.cs p.1).ownBlock = some k → Y.of k
  lt : ∀ k, Y.of k → k < w.heap.size

section
variable {w : World} {Y : Lay} {S : Vset} {pv : Value} {pf : Nat → Prop}
theorem VRep.keep (R : VRep w Y S pv pf) {w' : World} (hs : w.heap.size ≤ w'.heap.size) (hb : ∀ k, (pf k ∨ Y.of k) → w'.heap[k]? = w.heap[k]?) : VRep w' Y S pv pf :=
  { R with
    top := by rw [hb _ (.inr R.fs)]; exact R.top
    pool := R.pool.keep hs (fun k hk => hb k (.inl hk))
    map := R.map.of_block (hb _ (.inr R.fm))
    hdr := fun p hp => by rw [hb _ (.inr (R.fh p hp))]; exact R.hdr p hp
    frs := fun p hp h => (R.frs p hp h).of_block (hb _ (.inr (R.ff p hp h)))
    kids := fun p hp => (R.kids p hp).of_block (fun k hk _ => hb k (.inr (R.fc p hp k hk)))
    lt := fun k hk => by have := R.lt k hk; omega }
theorem VRep.mods (R : VRep w Y S pv pf) {w' : World} {F : Nat → Prop} (M : Mods F w w') (hF : ∀ k, (pf k ∨ Y.of k) → ¬ F k) : VRep w' Y S pv pf :=
  R.keep M.size (fun k hk => M.block k (by rcases hk with hk | hk; exact R.pool.lt k hk; exact R.lt k hk) (hF k hk))
/-- A call of the pool's. -/
theorem VRep.pooled (R : VRep w Y S pv pf) {w' : World} {q : Pool} {pv' : Value} {pf' : Nat → Prop} (hP : PRep w' Y.pb q pv' pf') (M : Mods pf w w') (hf : ∀ k, pf' k → pf k ∨ w.heap.size ≤ k) : VRep w' Y { S with pool := q } pv' pf' := by
  have hb : ∀ k, Y.of k → w'.heap[k]? = w.heap[k]? := fun k hk => M.block k (R.lt k hk) (fun h => R.sep k h hk)
  exact { R with
    top := by rw [hb _ R.fs]; exact R.top
    pool := hP
    map := R.map.of_block (hb _ R.fm)
    hdr := fun p hp => by rw [hb _ (R.fh p hp)]; exact R.hdr p hp
    frs := fun p hp h => (R.frs p hp h).of_block (hb _ (R.ff p hp h))
    kids := fun p hp => (R.kids p hp).of_block (fun k hk _ => hb k (R.fc p hp k hk))
    sep := fun k hk h => by
      rcases hf k hk with h1 | h1
      · exact R.sep k h1 h
      · have := R.lt k h; omega
    lt := fun k hk => by have := R.lt k hk; have := M.size; omega }
theorem VRep.s_ne (R : VRep w Y S pv pf) {p : Int × Vobj} (hp : p ∈ S.objs) : Y.s ≠ Y.blk p.1 := by
  intro h
  have h1 := R.top
  have h2 := R.hdr p hp
  rw [← h, h1] at h2
  simp [tSet, tVobj] at h2
theorem VRep.m_ne (R : VRep w Y S pv pf) {p : Int × Vobj} (hp : p ∈ S.objs) : Y.blk p.1 ≠ Y.m := R.map.ne_cells (R.hdr p hp)
theorem VRep.sm_ne (R : VRep w Y S pv pf) : Y.s ≠ Y.m := R.map.ne_cells R.top
theorem VRep.f_ne (R : VRep w Y S pv pf) {p q : Int × Vobj} (hp : p ∈ S.objs) (hq : q ∈ S.objs) (h : q.2.slice = false) : Y.blk p.1 ≠ Y.mb q.1 := (R.frs q hq h).ne_cells (R.hdr p hp)
theorem VRep.sf_ne (R : VRep w Y S pv pf) {q : Int × Vobj} (hq : q ∈ S.objs) (h : q.2.slice = false) : Y.s ≠ Y.mb q.1 := (R.frs q hq h).ne_cells R.top
theorem VRep.c_ne (R : VRep w Y S pv pf) {p q : Int × Vobj} (hp : p ∈ S.objs) (hq : q ∈ S.objs) {k : Nat} (hk : (Y.cs p.1).ownBlock = some k) : k ≠ Y.blk q.1 := by
  rintro rfl
  obtain ⟨cur, hc⟩ := (R.kids p hp).block hk
  rw [R.hdr q hq] at hc
  simp [tInt, tVobj] at hc
theorem VRep.c_ne_s (R : VRep w Y S pv pf) {p : Int × Vobj} (hp : p ∈ S.objs) {k : Nat} (hk : (Y.cs p.1).ownBlock = some k) : k ≠ Y.s := by
  rintro rfl
  obtain ⟨cur, hc⟩ := (R.kids p hp).block hk
  rw [R.top] at hc
  simp [tInt, tSet] at hc
theorem VRep.c_ne_m (R : VRep w Y S pv pf) {p : Int × Vobj} (hp : p ∈ S.objs) {k : Nat} (hk : (Y.cs p.1).ownBlock = some k) : k ≠ Y.m := by
  obtain ⟨cur, hc⟩ := (R.kids p hp).block hk
  exact R.map.ne_cells hc
theorem VRep.c_ne_f (R : VRep w Y S pv pf) {p q : Int × Vobj} (hp : p ∈ S.objs) (hq : q ∈ S.objs) (h : q.2.slice = false) {k : Nat} (hk : (Y.cs p.1).ownBlock = some k) : k ≠ Y.mb q.1 := by
  obtain ⟨cur, hc⟩ := (R.kids p hp).block hk
  exact (R.frs q hq h).ne_cells hc
theorem VRep.look (_ : VRep w Y S pv pf) (id : Int) : get (obs S Y) id = (S.at_ id).map fun _ => ptr (Y.blk id) :=
  get_map (fun k _ => ptr (Y.blk k)) S.objs id
theorem obs_set {S : Vset} {Y : Lay} {id : Int} {o o' : Vobj} (hg : S.at_ id = some o) : obs (S.set id o') Y = obs S Y := by
  have := map_put (fun k (_ : Vobj) => ptr (Y.blk k)) S.objs id o'
  show (put S.objs id o').map _ = _
  rw [this]
  exact put_same (by rw [get_map (fun k (_ : Vobj) => ptr (Y.blk k))]; show (S.at_ id).map _ = _; rw [hg]; rfl)

/-- An object's struct is written (its frames' map and its children stay). -/
theorem VRep.setObj (R : VRep w Y S pv pf) {id : Int} {o o' : Vobj} (hg : S.at_ id = some o) {w' : World} (hs : w.heap.size ≤ w'.heap.size)
    (hb : ∀ k, k < w.heap.size → k ≠ Y.blk id → w'.heap[k]? = w.heap[k]?) (hw : w'.heap[Y.blk id]? = some (.cells (ocells o' (Y.mb id) (Y.cs id)) tVobj (0, 0)))
    (h1 : o'.frames = o.frames) (h2 : o'.kids = o.kids) (h3 : o'.slice = o.slice) : VRep w' Y (S.set id o') pv pf := by
  have hm := get_mem hg
  have hof : Y.of (Y.blk id) := R.fh _ hm
  have hne : ∀ k, (pf k ∨ Y.of k) → k ≠ Y.blk id → w'.heap[k]? = w.heap[k]? := fun k hk hn => hb k (by rcases hk with hk | hk; exact R.pool.lt k hk; exact R.lt k hk) hn
  have hmem : ∀ p, p ∈ (S.set id o').objs ↔ p = (id, o') ∨ (p ∈ S.objs ∧ p.1 ≠ id) := fun p => mem_put R.nodup
  have hkeys : ∀ p ∈ (S.set id o').objs, ∃ q ∈ S.objs, q.1 = p.1 ∧ p.2.slice = q.2.slice ∧ p.2.frames = q.2.frames ∧ p.2.kids = q.2.kids := by
    intro p hp
    rcases (hmem p).1 hp with rfl | ⟨h1, _⟩
    · exact ⟨_, hm, rfl, h3, h1, h2⟩
    · exact ⟨p, h1, rfl, rfl, rfl, rfl⟩
  refine ⟨?_, ?_, ?_, ?_, ?_, ?_, ?_, ?_, ?_, ?_, ?_, nodup_put R.nodup _ _, R.sep, R.fs, R.fm, ?_, ?_, ?_, fun k hk => by have := R.lt k hk; omega⟩
  · rw [hne _ (.inr R.fs) (R.s_ne hm)]; exact R.top
  · exact R.pool.keep hs (fun k hk => hne k (.inl hk) (fun h => R.sep k hk (h ▸ hof)))
  · rw [obs_set hg]; exact R.map.of_block (hne _ (.inr R.fm) (Ne.symm (R.m_ne hm)))
  · intro p hp
    rcases (hmem p).1 hp with rfl | ⟨h1, h2⟩
    · exact hw
    · rw [hne _ (.inr (R.fh p h1)) (fun e => h2 (R.inj p h1 _ hm e))]; exact R.hdr p h1
  · intro p hp hsl
    obtain ⟨q, hq, e1, e2, e3, e4⟩ := hkeys p hp
    rw [e2] at hsl
    rw [← e1, e3]
    exact (R.frs q hq hsl).of_block (hne _ (.inr (R.ff q hq hsl)) (Ne.symm (R.f_ne hm hq hsl)))
  · intro p hp
    obtain ⟨q, hq, e1, e2, e3, e4⟩ := hkeys p hp
    rw [← e1, e4]
    exact (R.kids q hq).of_block (fun k hk _ => hne k (.inr (R.fc q hq k hk)) (R.c_ne hq hm hk))
  · intro p hp hsl
    obtain ⟨q, hq, e1, e2, e3, e4⟩ := hkeys p hp
    rw [e3]; exact R.nofr q hq (by rw [← e2]; exact hsl)
  · intro p hp q hq e
    obtain ⟨p', hp', e1, _⟩ := hkeys p hp
    obtain ⟨q', hq', e2, _⟩ := hkeys q hq
    rw [← e1, ← e2] at e ⊢
    exact R.inj p' hp' q' hq' e
  · intro p hp q hq s1 s2 e
    obtain ⟨p', hp', e1, f1, _⟩ := hkeys p hp
    obtain ⟨q', hq', e2, f2, _⟩ := hkeys q hq
    rw [f1] at s1; rw [f2] at s2
    rw [← e1, ← e2] at e ⊢
    exact R.minj p' hp' q' hq' s1 s2 e
  · intro p hp s1
    obtain ⟨p', hp', e1, f1, _⟩ := hkeys p hp
    rw [f1] at s1; rw [← e1]
    exact R.mne p' hp' s1
  · intro p hp q hq e
    obtain ⟨p', hp', e1, _⟩ := hkeys p hp
    obtain ⟨q', hq', e2, _⟩ := hkeys q hq
    rw [← e1, ← e2] at e ⊢
    exact R.cinj p' hp' q' hq' e
  · intro p hp
    obtain ⟨p', hp', e1, _⟩ := hkeys p hp
    rw [← e1]; exact R.fh p' hp'
  · intro p hp s1
    obtain ⟨p', hp', e1, f1, _⟩ := hkeys p hp
    rw [f1] at s1; rw [← e1]
    exact R.ff p' hp' s1
  · intro p hp
    obtain ⟨p', hp', e1, _⟩ := hkeys p hp
    rw [← e1]; exact R.fc p' hp'
end

theorem lookupsO (m : Nat) (L : List (Int × Value)) : ∀ W id, MapAt W m L → Sem.run Try.prog (Instr.lookup 73 (.map (some m)) (.int .i64 id) false) W = .ok ((get L id).getD (.pointer none)) W :=
  fun W id h => run_lookup_int Try.underlying73 Try.underlying3 Try.zeroValue77 m L W h id
theorem lensO (m : Nat) (L : List (Int × Value)) : ∀ ty W, MapAt W m L → Sem.run Try.prog (Builtin.len_ #[73] ty #[.map (some m)]) W = .ok (.int .i64 L.length) W :=
  fun _ W h => run_len_int Try.underlying73 m L W h
theorem updatesO (m : Nat) (L : List (Int × Value)) : ∀ W id v, MapAt W m L → Sem.run Try.prog (Instr.mapUpdate 73 (.map (some m)) (.int .i64 id) v) W = .ok () (mPut W m id v) :=
  fun W id v h => run_mapUpdate_int Try.underlying73 Try.underlying3 m L W h id v
theorem deletesO (m : Nat) (L : List (Int × Value)) : ∀ ty W id, MapAt W m L → Sem.run Try.prog (Builtin.delete_ #[73, 3] ty #[.map (some m), .int .i64 id]) W = .ok (.tuple #[]) (mDel W m id) :=
  fun _ W id h => run_delete_int Try.underlying73 Try.underlying3 m L W h id
theorem looksF (m : Nat) (L : List (Int × Value)) : ∀ W id, MapAt W m L → Sem.run Try.prog (Instr.lookup 78 (.map (some m)) (.int .i64 id) true) W = .ok (.tuple #[(get L id).getD (.int .i64 0), .bool (get L id).isSome]) W :=
  fun W id h => run_lookup_int_ok Try.underlying78 Try.underlying3 Try.zeroValue3 m L W h id
theorem lookupsF (m : Nat) (L : List (Int × Value)) : ∀ W id, MapAt W m L → Sem.run Try.prog (Instr.lookup 78 (.map (some m)) (.int .i64 id) false) W = .ok ((get L id).getD (.int .i64 0)) W :=
  fun W id h => run_lookup_int Try.underlying78 Try.underlying3 Try.zeroValue3 m L W h id
theorem lensF (m : Nat) (L : List (Int × Value)) : ∀ ty W, MapAt W m L → Sem.run Try.prog (Builtin.len_ #[78] ty #[.map (some m)]) W = .ok (.int .i64 L.length) W :=
  fun _ W h => run_len_int Try.underlying78 m L W h
theorem updatesF (m : Nat) (L : List (Int × Value)) : ∀ W id v, MapAt W m L → Sem.run Try.prog (Instr.mapUpdate 78 (.map (some m)) (.int .i64 id) v) W = .ok () (mPut W m id v) :=
  fun W id v h => run_mapUpdate_int Try.underlying78 Try.underlying3 m L W h id v
theorem deletesF (m : Nat) (L : List (Int × Value)) : ∀ ty W id, MapAt W m L → Sem.run Try.prog (Builtin.delete_ #[78, 3] ty #[.map (some m), .int .i64 id]) W = .ok (.tuple #[]) (mDel W m id) :=
  fun _ W id h => run_delete_int Try.underlying78 Try.underlying3 m L W h id
end Go.Proofs.Ytkifgoadbnpofaa
