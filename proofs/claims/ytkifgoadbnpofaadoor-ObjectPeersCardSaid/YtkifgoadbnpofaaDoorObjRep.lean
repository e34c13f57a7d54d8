/- How objects (layer 18) lie in memory: the struct, its map, a header for each object, its bag; what a write to one header, a new one, and a deleted one make of that. -/
import Derived.Test.YtkifgoadbnpofaaDoorProg
import Derived.Test.YtkifgoadbnpofaaDoorObjPure
import Derived.Test.YtkifgoadbnpofaaDoorRow
namespace Go.Proofs.YtkifgoadbnpofaaDoor
open Go Go.RowKit

theorem MapAt_drewN {w : World} {n m : Nat} {L : List (Int × Value)} : MapAt (w.drewN n) m L ↔ MapAt w m L := ⟨fun h => ⟨h.ex⟩, fun h => ⟨h.ex⟩⟩
theorem MapAt_drew {w : World} {m : Nat} {L : List (Int × Value)} : MapAt w.drew m L ↔ MapAt w m L := ⟨fun h => ⟨h.ex⟩, fun h => ⟨h.ex⟩⟩
theorem MapAt_setCell {w : World} {m : Nat} {L : List (Int × Value)} {a : Addr} {v : Value} : MapAt (w.setCell a v) m L ↔ MapAt w m L := by
  have key : ∀ es clk, (w.setCell a v).heap[m]? = some (.map es clk) ↔ w.heap[m]? = some (.map es clk) := by
    intro es clk
    by_cases h : m = a.block
    · subst h
      simp only [World.setCell, Array.getElem?_modify, if_true]
      cases hh : w.heap[a.block]? with
      | none => simp
      | some o => cases o <;> simp
    · rw [hp_setCell_ne _ _ _ _ h]
  constructor
  · rintro ⟨es, clk, h, r⟩; exact ⟨es, clk, (key es clk).1 h, r⟩
  · rintro ⟨es, clk, h, r⟩; exact ⟨es, clk, (key es clk).2 h, r⟩
theorem MapAt_alloc {w : World} {m : Nat} {L : List (Int × Value)} {o : Obj} (hm : m < w.heap.size) : MapAt (w.alloc o) m L ↔ MapAt w m L := by
  constructor
  · rintro ⟨h⟩; exact ⟨by rw [hp_alloc_old _ _ _ hm] at h; exact h⟩
  · rintro ⟨h⟩; exact ⟨by rw [hp_alloc_old _ _ _ hm]; exact h⟩
attribute [go_sem] MapAt_drewN MapAt_drew MapAt_setCell MapAt_alloc

/-- The k-th number. -/
def nth (l : List Int) (k : Nat) : Int := l.getD k 0
theorem nth_mem {l : List Int} {k : Nat} (h : k < l.length) : nth l k ∈ l := by
  rw [nth, List.getD_eq_getElem?_getD, List.getElem?_eq_getElem h]; exact List.getElem_mem h
theorem nth_get {l : List Int} {k : Nat} (h : k < l.length) : nth l k = l[k] := by
  rw [nth, List.getD_eq_getElem?_getD, List.getElem?_eq_getElem h]; rfl
theorem take_nth {l : List Int} {k : Nat} (h : k < l.length) : l.take (k + 1) = l.take k ++ [nth l k] := by
  rw [List.take_succ_eq_append_getElem h, nth_get h]
/-- A slice of int that holds l. -/
def IntsAt (w : World) (v : Value) (l : List Int) : Prop :=
  ∃ a c, v = .slice a l.length c ∧ l.length ≤ maxLen ∧ (0 < l.length → ∃ b off, a = some ⟨b, off, none⟩ ∧ b < w.heap.size ∧ ∀ j, j < l.length → w.cell? ⟨b, off + j, none⟩ = some (i64 (nth l j)))
theorem IntsAt.ofRow {w : World} {e : TypeId} {v : Value} {l : List Int} (h : Row w e 1 v l.length (l.map i64)) (hm : l.length ≤ maxLen) : IntsAt w v l := by
  rcases h.2 with ⟨rfl, h0⟩ | ⟨g, off, cap, cur, rfl, hg, _⟩
  · refine ⟨none, 0, by rw [h0], hm, fun h => by omega⟩
  · exact ⟨_, cap, rfl, hm, fun _ => ⟨g, off, rfl, hp_lt hg, fun j hj => h.cells j _ (by rw [nth_get hj]; simp [hj])⟩⟩
theorem IntsAt.src {w : World} {v : Value} {l : List Int} (h : IntsAt w v l) : Src w 1 v l.length (l.map i64) := by
  obtain ⟨a, c, rfl, _, hr⟩ := h
  refine ⟨by simp, by simp [i64, Value.oneCell'], ?_⟩
  by_cases h0 : 0 < l.length
  · obtain ⟨b, off, rfl, _, hc⟩ := hr h0
    refine .inr ⟨b, off, c, rfl, fun j u hu => ?_⟩
    have hj : j < l.length := by
      have := (List.getElem?_eq_some_iff.1 hu).1
      simpa using this
    rw [hc j hj, nth_get hj]
    simp [hj] at hu
    rw [hu]
  · exact .inl ⟨by omega, a, c, by rw [show l.length = 0 by omega]⟩
theorem IntsAt.of {w w' : World} {v : Value} {l : List Int} (h : IntsAt w v l) (hs : w.heap.size ≤ w'.heap.size) (hb : ∀ k, v.ownBlock = some k → k < w.heap.size → w'.heap[k]? = w.heap[k]?) : IntsAt w' v l := by
  obtain ⟨a, c, rfl, hm, hr⟩ := h
  refine ⟨a, c, rfl, hm, fun h0 => ?_⟩
  obtain ⟨b, off, rfl, hlt, hc⟩ := hr h0
  refine ⟨b, off, rfl, by omega, fun j hj => ?_⟩
  rw [← hc j hj]
  exact World.cell?_of_block (hb b rfl hlt)

def hcells (h : Hdr) (bv : Value) : Array Value :=
  #[i64 h.kind, i64 h.peer, i64 h.refs, i64 h.pins, i64 h.carried, i64 h.carries, i64 h.shows, .bool h.paired, bv]
def tObjs : Nat := 58
def tHdr : Nat := 63
def tInt : Nat := 3

structure ORep (w : World) (o : Nat) (S : Obs) (fp : Nat → Prop) (m : Nat) (blk : Int → Nat) (bg : Int → Value) : Prop where
  top : w.heap[o]? = some (.cells #[.map (some m), i64 S.last, i64 S.most] tObjs (0, 0))
  map : MapAt w m (S.all.map fun p => (p.1, ptr (blk p.1)))
  hdr : ∀ p ∈ S.all, w.heap[blk p.1]? = some (.cells (hcells p.2 (bg p.1)) tHdr (0, 0))
  bag : ∀ p ∈ S.all, Row w tInt 1 (bg p.1) p.2.bag.length (p.2.bag.map i64)
  inj : ∀ p ∈ S.all, ∀ q ∈ S.all, blk p.1 = blk q.1 → p.1 = q.1
  binj : ∀ p ∈ S.all, ∀ q ∈ S.all, p.1 ≠ q.1 → ∀ k, (bg p.1).ownBlock = some k → (bg q.1).ownBlock ≠ some k
  nodup : (S.all.map (·.1)).Nodup
  fo : fp o
  fm : fp m
  fh : ∀ p ∈ S.all, fp (blk p.1)
  fb : ∀ p ∈ S.all, ∀ k, (bg p.1).ownBlock = some k → fp k
  lt : ∀ k, fp k → k < w.heap.size

section
variable {w : World} {o : Nat} {S : Obs} {fp : Nat → Prop} {m : Nat} {blk : Int → Nat} {bg : Int → Value}

theorem ORep.keep (R : ORep w o S fp m blk bg) {w' : World} (hs : w.heap.size ≤ w'.heap.size) (hb : ∀ k, fp k → w'.heap[k]? = w.heap[k]?) : ORep w' o S fp m blk bg where
  top := by rw [hb o R.fo]; exact R.top
  map := R.map.of_block (hb m R.fm)
  hdr := fun p hp => by rw [hb _ (R.fh p hp)]; exact R.hdr p hp
  bag := fun p hp => (R.bag p hp).of_block (fun k hk _ => hb k (R.fb p hp k hk))
  inj := R.inj
  binj := R.binj
  nodup := R.nodup
  fo := R.fo
  fm := R.fm
  fh := R.fh
  fb := R.fb
  lt := fun k hk => by have := R.lt k hk; omega

theorem ORep.mods (R : ORep w o S fp m blk bg) {w' : World} {F : Nat → Prop} (M : Mods F w w') (hF : ∀ k, fp k → ¬ F k) : ORep w' o S fp m blk bg :=
  R.keep M.size (fun k hk => M.block k (R.lt k hk) (hF k hk))

theorem ORep.o_ne (R : ORep w o S fp m blk bg) {p : Int × Hdr} (hp : p ∈ S.all) : o ≠ blk p.1 := by
  intro h
  have h1 := R.top
  have h2 := R.hdr p hp
  rw [← h, h1] at h2
  simp [tObjs, tHdr] at h2
theorem ORep.m_ne (R : ORep w o S fp m blk bg) {p : Int × Hdr} (hp : p ∈ S.all) : blk p.1 ≠ m := R.map.ne_cells (R.hdr p hp)
theorem ORep.om_ne (R : ORep w o S fp m blk bg) : o ≠ m := R.map.ne_cells R.top
theorem ORep.bag_ne (R : ORep w o S fp m blk bg) {p q : Int × Hdr} (hp : p ∈ S.all) (hq : q ∈ S.all) {k : Nat} (hk : (bg p.1).ownBlock = some k) : k ≠ blk q.1 := by
  rintro rfl
  obtain ⟨cur, hc⟩ := (R.bag p hp).block hk
  rw [R.hdr q hq] at hc
  simp [tInt, tHdr] at hc
theorem ORep.bag_ne_o (R : ORep w o S fp m blk bg) {p : Int × Hdr} (hp : p ∈ S.all) {k : Nat} (hk : (bg p.1).ownBlock = some k) : k ≠ o := by
  rintro rfl
  obtain ⟨cur, hc⟩ := (R.bag p hp).block hk
  rw [R.top] at hc
  simp [tInt, tObjs] at hc
theorem ORep.bag_ne_m (R : ORep w o S fp m blk bg) {p : Int × Hdr} (hp : p ∈ S.all) {k : Nat} (hk : (bg p.1).ownBlock = some k) : k ≠ m := by
  obtain ⟨cur, hc⟩ := (R.bag p hp).block hk
  exact R.map.ne_cells hc

/-- What the map answers. -/
theorem ORep.look (_ : ORep w o S fp m blk bg) (id : Int) : get (S.all.map fun p => (p.1, ptr (blk p.1))) id = (S.at id).map fun _ => ptr (blk id) :=
  get_map (fun k _ => ptr (blk k)) S.all id

/-- One header was written. -/
theorem ORep.set (R : ORep w o S fp m blk bg) {id : Int} {h h' : Hdr} (hg : S.at id = some h) {w' : World} (hs : w.heap.size ≤ w'.heap.size)
    (hb : ∀ k, k < w.heap.size → k ≠ blk id → w'.heap[k]? = w.heap[k]?) (hw : w'.heap[blk id]? = some (.cells (hcells h' (bg id)) tHdr (0, 0))) (hbag : h'.bag = h.bag) :
    ORep w' o (S.set id h') fp m blk bg := by
  have hm := get_mem hg
  have hne : ∀ k, fp k → k ≠ blk id → w'.heap[k]? = w.heap[k]? := fun k hk hn => hb k (R.lt k hk) hn
  have hmem : ∀ p, p ∈ (S.set id h').all ↔ p = (id, h') ∨ (p ∈ S.all ∧ p.1 ≠ id) := fun p => mem_put R.nodup
  have hkeys : ∀ p ∈ (S.set id h').all, ∃ q ∈ S.all, q.1 = p.1 := by
    intro p hp
    rcases (hmem p).1 hp with rfl | ⟨h1, _⟩
    · exact ⟨_, hm, rfl⟩
    · exact ⟨p, h1, rfl⟩
  refine ⟨?_, ?_, ?_, ?_, ?_, ?_, nodup_put R.nodup _ _, R.fo, R.fm, ?_, ?_, fun k hk => by have := R.lt k hk; omega⟩
  · rw [hne o R.fo (R.o_ne hm)]; exact R.top
  · have e : ((S.set id h').all.map fun p => (p.1, ptr (blk p.1))) = S.all.map fun p => (p.1, ptr (blk p.1)) := by
      have := map_put (fun k (_ : Hdr) => ptr (blk k)) S.all id h'
      show (put S.all id h').map _ = _
      rw [this]
      exact put_same (by rw [get_map (fun k (_ : Hdr) => ptr (blk k))]; show (S.at id).map _ = _; rw [hg]; rfl)
    rw [e]
    exact R.map.of_block (hne m R.fm (Ne.symm (R.m_ne hm)))
  · intro p hp
    rcases (hmem p).1 hp with rfl | ⟨h1, h2⟩
    · exact hw
    · rw [hne _ (R.fh p h1) (fun e => h2 (R.inj p h1 _ hm e))]; exact R.hdr p h1
  · intro p hp
    rcases (hmem p).1 hp with rfl | ⟨h1, h2⟩
    · simp only [hbag]
      exact (R.bag _ hm).of_block (fun k hk _ => hne k (R.fb _ hm k hk) (R.bag_ne hm hm hk))
    · exact (R.bag p h1).of_block (fun k hk _ => hne k (R.fb p h1 k hk) (R.bag_ne h1 hm hk))
  · intro p hp q hq e
    obtain ⟨p', hp', e1⟩ := hkeys p hp
    obtain ⟨q', hq', e2⟩ := hkeys q hq
    rw [← e1, ← e2] at e ⊢
    exact R.inj p' hp' q' hq' e
  · intro p hp q hq e
    obtain ⟨p', hp', e1⟩ := hkeys p hp
    obtain ⟨q', hq', e2⟩ := hkeys q hq
    rw [← e1, ← e2] at e ⊢
    exact R.binj p' hp' q' hq' e
  · intro p hp
    obtain ⟨p', hp', e1⟩ := hkeys p hp
    rw [← e1]; exact R.fh p' hp'
  · intro p hp
    obtain ⟨p', hp', e1⟩ := hkeys p hp
    rw [← e1]; exact R.fb p' hp'
end

section
variable {w : World} {o : Nat} {S : Obs} {fp : Nat → Prop} {m : Nat} {blk : Int → Nat} {bg : Int → Value}
/-- A new header came, in a new block b. -/
theorem ORep.add (R : ORep w o S fp m blk bg) {id : Int} {h : Hdr} (hnew : S.at id = none) (hbag : h.bag = []) {last : Int} {b : Nat} {w' : World} (hb : w.heap.size ≤ b) (hb' : b < w'.heap.size)
    (hk : ∀ k, k < w.heap.size → k ≠ o → k ≠ m → w'.heap[k]? = w.heap[k]?) (ho : w'.heap[o]? = some (.cells #[.map (some m), i64 last, i64 S.most] tObjs (0, 0)))
    (hm : MapAt w' m (put (S.all.map fun p => (p.1, ptr (blk p.1))) id (ptr b))) (hh : w'.heap[b]? = some (.cells (hcells h (.slice none 0 0)) tHdr (0, 0))) :
    ORep w' o (Obs.set { S with last := last } id h) (fun k => fp k ∨ k = b) m (fun x => if x = id then b else blk x) (fun x => if x = id then .slice none 0 0 else bg x) := by
  have hall : (Obs.set { S with last := last } id h).all = S.all ++ [(id, h)] := put_of_none _ _ _ hnew
  have hid : ∀ p ∈ S.all, p.1 ≠ id := fun p hp e => get_none.1 hnew (List.mem_map.2 ⟨p, hp, e⟩)
  have hlt : ∀ k, fp k → k < w.heap.size := R.lt
  have hmem : ∀ p, p ∈ (Obs.set { S with last := last } id h).all → p ∈ S.all ∨ p = (id, h) := fun p hp => by rw [hall] at hp; simpa using hp
  refine ⟨ho, ?_, ?_, ?_, ?_, ?_, nodup_put R.nodup _ _, .inl R.fo, .inl R.fm, ?_, ?_, ?_⟩
  · have e : ((Obs.set { S with last := last } id h).all.map fun p => (p.1, ptr (if p.1 = id then b else blk p.1))) = put (S.all.map fun p => (p.1, ptr (blk p.1))) id (ptr b) := by
      rw [hall, put_of_none _ _ _ (by rw [R.look, hnew]; rfl), List.map_append]
      congr 1
      · exact List.map_congr_left fun q hq => by simp [hid q hq]
      · simp
    rw [e]; exact hm
  · intro p hp
    rcases hmem p hp with hp | rfl
    · simp only [if_neg (hid p hp)]
      rw [hk _ (hlt _ (R.fh p hp)) (Ne.symm (R.o_ne hp)) (R.m_ne hp)]; exact R.hdr p hp
    · simp only [if_true]; exact hh
  · intro p hp
    rcases hmem p hp with hp | rfl
    · simp only [if_neg (hid p hp)]
      exact (R.bag p hp).of_block (fun k hk' hl => hk k hl (R.bag_ne_o hp hk') (R.bag_ne_m hp hk'))
    · simp only [if_true, hbag]; exact Row.nil _ _ _
  · intro p hp q hq
    rcases hmem p hp with hp | rfl <;> rcases hmem q hq with hq | rfl
    · simp only [if_neg (hid p hp), if_neg (hid q hq)]; exact R.inj p hp q hq
    · simp only [if_neg (hid p hp), if_true]; intro e; have := hlt _ (R.fh p hp); omega
    · simp only [if_neg (hid q hq), if_true]; intro e; have := hlt _ (R.fh q hq); omega
    · intro _; rfl
  · intro p hp q hq
    rcases hmem p hp with hp | rfl <;> rcases hmem q hq with hq | rfl
    · simp only [if_neg (hid p hp), if_neg (hid q hq)]; exact R.binj p hp q hq
    · simp [Value.ownBlock]
    · simp [Value.ownBlock]
    · intro e; exact absurd rfl e
  · intro p hp
    rcases hmem p hp with hp | rfl
    · simp only [if_neg (hid p hp)]; exact .inl (R.fh p hp)
    · simp
  · intro p hp
    rcases hmem p hp with hp | rfl
    · simp only [if_neg (hid p hp)]; exact fun k hk => .inl (R.fb p hp k hk)
    · simp [Value.ownBlock]
  · rintro k (hk | rfl)
    · have := hlt k hk; omega
    · exact hb'
/-- An object is struck from the map. -/
theorem ORep.del (R : ORep w o S fp m blk bg) {id : Int} {w' : World} (hs : w.heap.size ≤ w'.heap.size) (hk : ∀ k, k < w.heap.size → k ≠ m → w'.heap[k]? = w.heap[k]?)
    (hm : MapAt w' m (Proofs.YtkifgoadbnpofaaDoor.del (S.all.map fun p => (p.1, ptr (blk p.1))) id)) : ORep w' o (S.del id) fp m blk bg := by
  have hmem : ∀ p, p ∈ (S.del id).all → p ∈ S.all := fun p hp => (del_sublist S.all id).subset hp
  refine ⟨?_, ?_, ?_, ?_, fun p hp q hq => R.inj p (hmem p hp) q (hmem q hq), fun p hp q hq => R.binj p (hmem p hp) q (hmem q hq), nodup_del R.nodup _, R.fo, R.fm, fun p hp => R.fh p (hmem p hp), fun p hp => R.fb p (hmem p hp), fun k hk => by have := R.lt k hk; omega⟩
  · rw [hk o (R.lt _ R.fo) R.om_ne]; exact R.top
  · have e := map_del (fun k (_ : Hdr) => ptr (blk k)) S.all id
    show MapAt w' m ((Proofs.YtkifgoadbnpofaaDoor.del S.all id).map fun p => (p.1, ptr (blk p.1)))
    rw [e]; exact hm
  · intro p hp
    have hp := hmem p hp
    rw [hk _ (R.lt _ (R.fh p hp)) (R.m_ne hp)]; exact R.hdr p hp
  · intro p hp
    have hp := hmem p hp
    exact (R.bag p hp).of_block (fun k hk' hl => hk k hl (R.bag_ne_m hp hk'))
/-- A header's bag was written anew: v holds l. -/
theorem ORep.rebag (R : ORep w o S fp m blk bg) {id : Int} {h h' : Hdr} (hg : S.at id = some h) {v : Value} {w' : World} (hs : w.heap.size ≤ w'.heap.size)
    (hb : ∀ k, k < w.heap.size → k ≠ blk id → some k ≠ (bg id).ownBlock → w'.heap[k]? = w.heap[k]?) (hw : w'.heap[blk id]? = some (.cells (hcells h' v) tHdr (0, 0)))
    (hrow : Row w' tInt 1 v h'.bag.length (h'.bag.map i64)) (hv : ∀ k, v.ownBlock = some k → (bg id).ownBlock = some k ∨ w.heap.size ≤ k) :
    ORep w' o (S.set id h') (fun k => fp k ∨ v.ownBlock = some k) m blk (fun x => if x = id then v else bg x) := by
  have hm := get_mem hg
  have hmem : ∀ p, p ∈ (S.set id h').all ↔ p = (id, h') ∨ (p ∈ S.all ∧ p.1 ≠ id) := fun p => mem_put R.nodup
  have hkeys : ∀ p ∈ (S.set id h').all, ∃ q ∈ S.all, q.1 = p.1 := by
    intro p hp
    rcases (hmem p).1 hp with rfl | ⟨h1, _⟩
    · exact ⟨_, hm, rfl⟩
    · exact ⟨p, h1, rfl⟩
  refine ⟨?_, ?_, ?_, ?_, ?_, ?_, nodup_put R.nodup _ _, .inl R.fo, .inl R.fm, ?_, ?_, ?_⟩
  · rw [hb o (R.lt _ R.fo) (R.o_ne hm) (fun e => R.bag_ne_o hm e.symm rfl)]; exact R.top
  · have e : ((S.set id h').all.map fun p => (p.1, ptr (blk p.1))) = S.all.map fun p => (p.1, ptr (blk p.1)) := by
      have := map_put (fun k (_ : Hdr) => ptr (blk k)) S.all id h'
      show (put S.all id h').map _ = _
      rw [this]
      exact put_same (by rw [get_map (fun k (_ : Hdr) => ptr (blk k))]; show (S.at id).map _ = _; rw [hg]; rfl)
    rw [e]
    exact R.map.of_block (hb m (R.lt _ R.fm) (Ne.symm (R.m_ne hm)) (fun e => R.bag_ne_m hm e.symm rfl))
  · intro p hp
    rcases (hmem p).1 hp with rfl | ⟨h1, h2⟩
    · simp only [if_true]; exact hw
    · simp only [if_neg h2]
      rw [hb _ (R.lt _ (R.fh p h1)) (fun e => h2 (R.inj p h1 _ hm e)) (fun e => R.bag_ne hm h1 e.symm rfl)]; exact R.hdr p h1
  · intro p hp
    rcases (hmem p).1 hp with rfl | ⟨h1, h2⟩
    · simp only [if_true]; exact hrow
    · simp only [if_neg h2]
      exact (R.bag p h1).of_block (fun k hk hl => hb k hl (R.bag_ne h1 hm hk) (fun e => R.binj p h1 _ hm h2 k hk e.symm))
  · intro p hp q hq e
    obtain ⟨p', hp', e1⟩ := hkeys p hp
    obtain ⟨q', hq', e2⟩ := hkeys q hq
    rw [← e1, ← e2] at e ⊢
    exact R.inj p' hp' q' hq' e
  · intro p hp q hq e k hk
    rcases (hmem p).1 hp with rfl | ⟨h1, h2⟩ <;> rcases (hmem q).1 hq with rfl | ⟨h3, h4⟩
    · exact absurd rfl e
    · simp only [if_true] at hk
      simp only [if_neg h4]
      rcases hv k hk with h5 | h5
      · exact fun e' => R.binj q h3 _ hm h4 k e' h5
      · intro e'; have := (R.bag q h3).lt e'; omega
    · simp only [if_neg h2] at hk
      simp only [if_true]
      intro e'
      rcases hv k e' with h5 | h5
      · exact R.binj p h1 _ hm h2 k hk h5
      · have := (R.bag p h1).lt hk; omega
    · simp only [if_neg h2] at hk
      simp only [if_neg h4]
      exact R.binj p h1 q h3 e k hk
  · intro p hp
    obtain ⟨p', hp', e1⟩ := hkeys p hp
    rw [← e1]; exact .inl (R.fh p' hp')
  · intro p hp k hk
    rcases (hmem p).1 hp with rfl | ⟨h1, h2⟩
    · simp only [if_true] at hk; exact .inr hk
    · simp only [if_neg h2] at hk; exact .inl (R.fb p h1 k hk)
  · rintro k (hk | hk)
    · have := R.lt k hk; omega
    · exact hrow.lt hk
end

section
variable {w : World} {o : Nat} {S : Obs} {fp : Nat → Prop} {m : Nat} {blk : Int → Nat} {bg : Int → Value}
/-- Two headers were written. -/
theorem ORep.set2 (R : ORep w o S fp m blk bg) {a b : Int} {x x' y y' : Hdr} (hab : a ≠ b) (hga : S.at a = some x) (hgb : S.at b = some y) {w' : World} (hs : w.heap.size ≤ w'.heap.size)
    (hk : ∀ k, k < w.heap.size → k ≠ blk a → k ≠ blk b → w'.heap[k]? = w.heap[k]?) (hwa : w'.heap[blk a]? = some (.cells (hcells x' (bg a)) tHdr (0, 0)))
    (hwb : w'.heap[blk b]? = some (.cells (hcells y' (bg b)) tHdr (0, 0))) (hba : x'.bag = x.bag) (hbb : y'.bag = y.bag) : ORep w' o ((S.set a x').set b y') fp m blk bg := by
  have hbl : blk a ≠ blk b := fun e => hab (R.inj _ (get_mem hga) _ (get_mem hgb) e)
  have hlt : blk a < w.heap.size := R.lt _ (R.fh _ (get_mem hga))
  have R1 := R.set (w' := { w with heap := w.heap.setIfInBounds (blk a) (.cells (hcells x' (bg a)) tHdr (0, 0)) }) (h' := x') hga (by simp)
    (fun k _ hk => by simp [Ne.symm hk]) (by simp [hlt]) hba
  refine R1.set (id := b) (h := y) (h' := y') (by show get (put _ _ _) _ = _; rw [get_put, if_neg hab]; exact hgb) (by simpa using hs) (fun k hk' hkb => ?_) hwb hbb
  by_cases e : k = blk a
  · subst e; rw [hwa]; simp [hlt]
  · rw [hk k (by simpa using hk') e hkb]; simp [Ne.symm e]
end

def OR (o : Nat) (S : Obs) (w : World) (fp : Nat → Prop) : Prop := ∃ m blk bg, ORep w o S fp m blk bg

theorem lookups (m : Nat) (L : List (Int × Value)) : ∀ W id, MapAt W m L → Sem.run Tryd.prog (Instr.lookup 56 (.map (some m)) (.int .i64 id) false) W = .ok ((get L id).getD (.pointer none)) W :=
  fun W id h => run_lookup_int Tryd.underlying56 Tryd.underlying3 Tryd.zeroValue60 m L W h id
theorem lens (m : Nat) (L : List (Int × Value)) : ∀ ty W, MapAt W m L → Sem.run Tryd.prog (Builtin.len_ #[56] ty #[.map (some m)]) W = .ok (.int .i64 L.length) W :=
  fun _ W h => run_len_int Tryd.underlying56 m L W h
theorem updates (m : Nat) (L : List (Int × Value)) : ∀ W id v, MapAt W m L → Sem.run Tryd.prog (Instr.mapUpdate 56 (.map (some m)) (.int .i64 id) v) W = .ok () (mPut W m id v) :=
  fun W id v h => run_mapUpdate_int Tryd.underlying56 Tryd.underlying3 m L W h id v
theorem deletes (m : Nat) (L : List (Int × Value)) : ∀ ty W id, MapAt W m L → Sem.run Tryd.prog (Builtin.delete_ #[56, 3] ty #[.map (some m), .int .i64 id]) W = .ok (.tuple #[]) (mDel W m id) :=
  fun _ W id h => run_delete_int Tryd.underlying56 Tryd.underlying3 m L W h id
end Go.Proofs.YtkifgoadbnpofaaDoor
