/- Walks of layer 18's small functions: held, Name, First, New, Count, Pin, Ref, show, Show. -/
import Derived.Test.YtkifgoadbnpofaaDoorObjRep
namespace Go.Proofs.YtkifgoadbnpofaaDoor
open Go Go.RowKit
set_option maxRecDepth 100000

/-- The table of names stands: only the first name is empty. -/
def Named (w : World) : Prop := ∀ k, k < 12 → ∃ s : ByteArray, w.cell? ⟨0, k, none⟩ = some (.string s) ∧ s.toList.isEmpty = decide (k = 0)

set_option maxHeartbeats 400000 in
theorem held_calls {w : World} {x : Nat} {h : Hdr} {bv : Value} (hh : w.heap[x]? = some (.cells (hcells h bv) tHdr (0, 0))) :
    Calls Tryd.prog 33 #[ptr x] w fun e w' => e = .returned (.bool h.held) ∧ ∃ n, w' = w.drewN n := by
  have c2 : w.cell? ⟨x, 2, none⟩ = some (.int .i64 h.refs) := (cell_of (o := 2) hh).trans rfl
  have c3 : w.cell? ⟨x, 3, none⟩ = some (.int .i64 h.pins) := (cell_of (o := 3) hh).trans rfl
  have c4 : w.cell? ⟨x, 4, none⟩ = some (.int .i64 h.carried) := (cell_of (o := 4) hh).trans rfl
  clear hh
  go_enter Tryd.func33, Tryd.ntmps33
  go_wp2
  go_quiet (fail)
  go_wp2
  go_ret
  exact ⟨rfl, _, rfl⟩

theorem emptyList : (⟨#[]⟩ : ByteArray).toList.isEmpty = true := by
  decide +kernel
def noKind (k : Int) : Bool := decide (k < 1 ∨ 11 < k)
def NamePost (k : Int) (w : World) (e : Ending) (w' : World) : Prop := ∃ s : ByteArray, e = .returned (.string s) ∧ s.toList.isEmpty = noKind k ∧ w = w'

set_option maxHeartbeats 400000 in
theorem name_calls {w : World} (hn : Named w) (k : Int) : Calls Tryd.prog 21 #[i64 k] w (NamePost k w) := by
  by_cases h0 : k < 0
  · have Hd := Lib.hid (show noKind k = true by simp [noKind]; omega)
    go_enter Tryd.func21, Tryd.ntmps21
    go_wp2
    go_ret
    exact ⟨⟨#[]⟩, rfl, by rw [Hd.out]; exact emptyList, rfl⟩
  · by_cases h1 : k < 12
    · obtain ⟨j, rfl⟩ := Int.eq_ofNat_of_zero_le (show 0 ≤ k by omega)
      obtain ⟨s, hs, he⟩ := hn j (by omega)
      have Hd := Lib.hid (show s.toList.isEmpty = noKind (j : Int) by rw [he]; unfold noKind; by_cases hj : j = 0 <;> simp [hj] <;> omega)
      have hj : j < 12 := by omega
      clear he hn
      go_enter Tryd.func21, Tryd.ntmps21
      go_wp2
      go_ret
      exact ⟨s, rfl, Hd.out, rfl⟩
    · have Hd := Lib.hid (show noKind k = true by simp [noKind]; omega)
      go_enter Tryd.func21, Tryd.ntmps21
      go_wp2
      go_ret
      exact ⟨⟨#[]⟩, rfl, by rw [Hd.out]; exact emptyList, rfl⟩

theorem first_val (k : Int) : firstShows k = if (k == 4) = true then 2 else if (k == 5) = true then 2 else if (k == 6) = true then 2 else if (k == 11) = true then 32 else 0 := by
  unfold firstShows
  by_cases h4 : k = 4 <;> by_cases h5 : k = 5 <;> by_cases h6 : k = 6 <;> by_cases h11 : k = 11 <;> simp_all

set_option maxHeartbeats 400000 in
theorem first_calls {w : World} (k : Int) :
    Calls Tryd.prog 22 #[i64 k] w fun e w' => e = .returned (i64 (firstShows k)) ∧ w' = w := by
  have Hf := Lib.hid (first_val k)
  go_enter Tryd.func22, Tryd.ntmps22
  go_wp2
  all_goals
    go_ret
    refine ⟨?_, rfl⟩
    rw [Hf.out]
    simp [*]

/-- What a call makes of objects whose map, headers and bags stay where they are. -/
def Stays (w : World) (o : Nat) (S : Obs) (fp : Nat → Prop) (m : Nat) (blk : Int → Nat) (bg : Int → Value) (v : Value) (e : Ending) (w' : World) : Prop :=
  e = .returned v ∧ ORep w' o S fp m blk bg ∧ Mods fp w w'

section
variable {w : World} {o : Nat} {S : Obs} {fp : Nat → Prop} {m : Nat} {blk : Int → Nat} {bg : Int → Value}

set_option maxHeartbeats 400000 in
theorem count_calls (R : ORep w o S fp m blk bg) :
    Calls Tryd.prog 12 #[ptr o] w fun e w' => e = .returned (i64 S.all.length) ∧ w' = w := by
  have c0 : w.cell? ⟨o, 0, none⟩ = some (.map (some m)) := (cell_of (o := 0) R.top).trans rfl
  have hM := R.map
  have hl := lens m (S.all.map fun p => (p.1, ptr (blk p.1)))
  have Hl := Lib.hid (show (S.all.map fun p => (p.1, ptr (blk p.1))).length = S.all.length by simp)
  generalize (S.all.map fun p => (p.1, ptr (blk p.1))) = L at hM hl Hl
  go_enter Tryd.func12, Tryd.ntmps12
  go_wp2
  go_ret
  exact ⟨by rw [← Hl.out]; rfl, rfl⟩

set_option maxHeartbeats 400000 in
theorem pin_calls (R : ORep w o S fp m blk bg) (id : Int) :
    Calls Tryd.prog 9 #[ptr o, i64 id] w (Stays w o (S.pin id).1 fp m blk bg (i64 (S.pin id).2)) := by
  have c0 : w.cell? ⟨o, 0, none⟩ = some (.map (some m)) := (cell_of (o := 0) R.top).trans rfl
  have hM := R.map
  have hk := R.look id
  have hl := lookups m (S.all.map fun p => (p.1, ptr (blk p.1)))
  generalize (S.all.map fun p => (p.1, ptr (blk p.1))) = L at hM hk hl
  cases hg : S.at id with
  | none =>
    have Hp := Lib.hid (show S.pin id = (S, -25) by simp [Obs.pin, hg])
    rw [hg] at hk
    clear hg
    go_enter Tryd.func9, Tryd.ntmps9
    go_wp2
    go_ret
    rw [Hp.out]
    exact ⟨rfl, R, Mods.refl _ _⟩
  | some h =>
    have Hp := Lib.hid (show S.pin id = (S.set id { h with pins := wrap64 (h.pins + 1) }, 0) by simp [Obs.pin, hg])
    rw [hg] at hk
    have hh := R.hdr _ (get_mem hg)
    have hx : fp (blk id) := R.fh _ (get_mem hg)
    simp only at hh
    have c3 : w.cell? ⟨blk id, 3, none⟩ = some (.int .i64 h.pins) := (cell_of (o := 3) hh).trans rfl
    have f3 : w.frozen? ⟨blk id, 3, none⟩ = false := frozen_of hh
    have Hh := Lib.hid hh
    have Hg := Lib.hid hg
    clear hh hg
    go_enter Tryd.func9, Tryd.ntmps9
    go_wp2
    go_ret
    rw [Hp.out]
    refine ⟨rfl, R.set Hg.out (by simp) (fun k _ hk => hp_setCell_ne _ _ _ _ hk) (hp_setCell_same _ _ _ _ _ _ _ Hh.out) rfl, (Mods.refl _ _).setCell (.inl hx) _⟩

set_option maxHeartbeats 400000 in
theorem ref_calls (R : ORep w o S fp m blk bg) (id : Int) :
    Calls Tryd.prog 17 #[ptr o, i64 id] w (Stays w o (S.ref id).1 fp m blk bg (i64 (S.ref id).2)) := by
  have c0 : w.cell? ⟨o, 0, none⟩ = some (.map (some m)) := (cell_of (o := 0) R.top).trans rfl
  have hM := R.map
  have hk := R.look id
  have hl := lookups m (S.all.map fun p => (p.1, ptr (blk p.1)))
  generalize (S.all.map fun p => (p.1, ptr (blk p.1))) = L at hM hk hl
  cases hg : S.at id with
  | none =>
    have Hp := Lib.hid (show S.ref id = (S, -25) by simp [Obs.ref, hg])
    rw [hg] at hk
    clear hg
    go_enter Tryd.func17, Tryd.ntmps17
    go_wp2
    go_ret
    rw [Hp.out]
    exact ⟨rfl, R, Mods.refl _ _⟩
  | some h =>
    have Hp := Lib.hid (show S.ref id = (S.set id { h with refs := wrap64 (h.refs + 1) }, 0) by simp [Obs.ref, hg])
    rw [hg] at hk
    have hh := R.hdr _ (get_mem hg)
    have hx : fp (blk id) := R.fh _ (get_mem hg)
    simp only at hh
    have c3 : w.cell? ⟨blk id, 2, none⟩ = some (.int .i64 h.refs) := (cell_of (o := 2) hh).trans rfl
    have f3 : w.frozen? ⟨blk id, 2, none⟩ = false := frozen_of hh
    have Hh := Lib.hid hh
    have Hg := Lib.hid hg
    clear hh hg
    go_enter Tryd.func17, Tryd.ntmps17
    go_wp2
    go_ret
    rw [Hp.out]
    refine ⟨rfl, R.set Hg.out (by simp) (fun k _ hk => hp_setCell_ne _ _ _ _ hk) (hp_setCell_same _ _ _ _ _ _ _ Hh.out) rfl, (Mods.refl _ _).setCell (.inl hx) _⟩

def evCells (e : Ev) : List Value := [i64 e.obj, .bool e.ended, i64 e.shows]
def tEv : Nat := 36
/-- .. and tells events, in new memory. -/
def Tells (w : World) (o : Nat) (S : Obs) (fp : Nat → Prop) (m : Nat) (blk : Int → Nat) (bg : Int → Value) (F : Nat → Prop) (evs : List Ev) (v : Value) (w' : World) : Prop :=
  Row w' tEv 3 v evs.length (evs.flatMap evCells) ∧ (∀ k, v.ownBlock = some k → w.heap.size ≤ k) ∧ ORep w' o S fp m blk bg ∧ Mods F w w'
def TellsPost (w : World) (o : Nat) (S : Obs) (fp : Nat → Prop) (m : Nat) (blk : Int → Nat) (bg : Int → Value) (F : Nat → Prop) (evs : List Ev) (e : Ending) (w' : World) : Prop :=
  ∃ v, e = .returned v ∧ Tells w o S fp m blk bg F evs v w'
def TellsPost2 (w : World) (o : Nat) (S : Obs) (fp : Nat → Prop) (m : Nat) (blk : Int → Nat) (bg : Int → Value) (F : Nat → Prop) (evs : List Ev) (s : Int) (e : Ending) (w' : World) : Prop :=
  ∃ v, e = .returned (.tuple #[v, i64 s]) ∧ Tells w o S fp m blk bg F evs v w'

theorem Row.one (w : World) (b : Nat) (hb : b = w.heap.size) (e : TypeId) (size : Nat) (xs : List Value) (hl : xs.length = size) : Row (w.alloc (.cells xs.toArray e)) e size (.slice (some ⟨b, 0, none⟩) 1 1) 1 xs := by
  subst hb
  exact ⟨by simp [hl], .inr ⟨w.heap.size, 0, 1, xs.toArray, rfl, hp_alloc_new w _, Nat.le_refl _, by simp [maxLen], by simp [hl], by simp [← hl]⟩⟩

set_option maxHeartbeats 400000 in
theorem show_calls (R : ORep w o S fp m blk bg) {id : Int} {h : Hdr} (hg : S.at id = some h) (clr st : Int) :
    Calls Tryd.prog 26 #[ptr o, i64 id, i64 clr, i64 st] w (TellsPost w o (S.show id clr st).1 fp m blk bg (fun k => k = blk id) (S.show id clr st).2) := by
  have c0 : w.cell? ⟨o, 0, none⟩ = some (.map (some m)) := (cell_of (o := 0) R.top).trans rfl
  have hM := R.map
  have hk := R.look id
  have hl := lookups m (S.all.map fun p => (p.1, ptr (blk p.1)))
  generalize (S.all.map fun p => (p.1, ptr (blk p.1))) = L at hM hk hl
  rw [hg] at hk
  have hh := R.hdr _ (get_mem hg)
  have hx : fp (blk id) := R.fh _ (get_mem hg)
  simp only at hh
  have c3 : w.cell? ⟨blk id, 6, none⟩ = some (.int .i64 h.shows) := (cell_of (o := 6) hh).trans rfl
  have f3 : w.frozen? ⟨blk id, 6, none⟩ = false := frozen_of hh
  by_cases hc : newShows h.shows clr st = h.shows
  · have Hp := Lib.hid (show S.show id clr st = (S, []) by simp [Obs.show, hg, hc])
    have hc' : (bits .or .i64 (bits .andNot .i64 h.shows clr) st == h.shows) = true := by simpa [newShows] using hc
    clear hh hg hc
    go_enter Tryd.func26, Tryd.ntmps26
    go_wp2
    go_ret
    rw [Hp.out]
    exact ⟨_, rfl, Row.nil _ _ _, (fun k h => by cases h), R, Mods.refl _ _⟩
  · have Hp := Lib.hid (show S.show id clr st = (S.set id { h with shows := newShows h.shows clr st }, [⟨id, false, newShows h.shows clr st⟩]) by simp [Obs.show, hg, hc])
    have hc' : (bits .or .i64 (bits .andNot .i64 h.shows clr) st == h.shows) = false := by simpa [newShows] using hc
    have Hh := Lib.hid hh
    have Hg := Lib.hid hg
    have hlt := hp_lt hh
    clear hh hg hc
    go_enter Tryd.func26, Tryd.ntmps26
    go_wp2
    go_ret
    rw [Hp.out]
    refine ⟨.slice (some ⟨w.heap.size, 0, none⟩) 1 1, rfl, Row.one _ _ (by simp) tEv 3 [i64 id, .bool false, i64 (newShows h.shows clr st)] rfl, (fun k h => by cases h; simp), ?_, ((Mods.refl (fun k => k = blk id) w).setCell (p := ⟨blk id, 6, none⟩) (.inl rfl) _).alloc _⟩
    refine (R.set (h' := { h with shows := newShows h.shows clr st }) (w' := w.setCell ⟨blk id, 6, none⟩ _) Hg.out (by simp) (fun k _ hk => hp_setCell_ne _ _ _ _ hk) (hp_setCell_same _ _ _ _ _ _ _ Hh.out) rfl).keep (by simp) (fun k hk => ?_)
    exact hp_alloc_old _ _ _ (by have := R.lt k hk; simpa using this)
end
end Go.Proofs.YtkifgoadbnpofaaDoor
