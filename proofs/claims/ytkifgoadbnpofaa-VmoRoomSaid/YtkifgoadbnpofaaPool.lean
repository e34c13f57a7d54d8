/- Walks of layer 7 (frames of memory), with the plain functions that they compute. -/
import Derived.Test.YtkifgoadbnpofaaProg
import Derived.Test.YtkifgoadbnpofaaNum
import Derived.Test.YtkifgoadbnpofaaBytes
namespace Go.Proofs.Ytkifgoadbnpofaa
open Go Go.RowKit
set_option maxRecDepth 100000

structure Frm where
  data : List Int
  users : Int
  deriving DecidableEq
structure Pool where
  frames : List Frm
  cap : Int
  used : Int
  deriving DecidableEq


def fcells (f : Frm) : List Value := f.data.map u8 ++ [i64 f.users]
def zeros (n : Nat) : List Int := List.replicate n 0
def tPool : Nat := 110
def tFrame : Nat := 121
def frameT : TypeId := 121

namespace Pool
def at_ (p : Pool) (f : Int) : Option Frm := if f < 0 then none else (p.frames[f.toNat]?).bind fun x => if x.users = 0 then none else some x
def users (p : Pool) (f : Int) : Int := ((p.at_ f).map (·.users)).getD 0
def room (p : Pool) : Int := p.cap - p.used
def set (p : Pool) (f : Int) (x : Frm) : Pool := { p with frames := p.frames.set f.toNat x }
def share (p : Pool) (f : Int) : Pool × Int := match p.at_ f with
  | none => (p, -25)
  | some x => (p.set f { x with users := wrap64 (x.users + 1) }, 0)
def release (p : Pool) (f : Int) : Pool × Int := match p.at_ f with
  | none => (p, -25)
  | some x => if wrap64 (x.users - 1) = 0 then ({ p.set f { x with users := 0 } with used := wrap64 (p.used - 1) }, 0) else (p.set f { x with users := wrap64 (x.users - 1) }, 0)
end Pool

structure PRep (w : World) (b : Nat) (p : Pool) (v : Value) (fp : Nat → Prop) : Prop where
  top : w.heap[b]? = some (.cells #[v, i64 p.cap, i64 p.used] tPool (0, 0))
  row : Row w tFrame 65 v p.frames.length (p.frames.flatMap fcells)
  wf : ∀ f ∈ p.frames, f.data.length = 64
  fb : fp b
  fv : ∀ k, v.ownBlock = some k → fp k
  lt : ∀ k, fp k → k < w.heap.size

theorem fcells_len {f : Frm} (h : f.data.length = 64) : (fcells f).length = 65 := by simp [fcells, h]
theorem Pool.at_some {p : Pool} {f : Int} {x : Frm} (h : p.at_ f = some x) : 0 ≤ f ∧ p.frames[f.toNat]? = some x ∧ x.users ≠ 0 := by
  unfold Pool.at_ at h
  split at h
  · cases h
  · cases hx : p.frames[f.toNat]? with
    | none => simp [hx] at h
    | some y =>
      simp only [hx, Option.bind_some] at h
      split at h
      · cases h
      · cases h; exact ⟨by omega, rfl, by assumption⟩

section
variable {w : World} {b : Nat} {p : Pool} {v : Value} {fp : Nat → Prop}
theorem PRep.flen (R : PRep w b p v fp) : ∀ f ∈ p.frames, (fcells f).length = 65 := fun f hf => fcells_len (R.wf f hf)
theorem PRep.keep (R : PRep w b p v fp) {w' : World} (hs : w.heap.size ≤ w'.heap.size) (hb : ∀ k, fp k → w'.heap[k]? = w.heap[k]?) : PRep w' b p v fp where
  top := by rw [hb b R.fb]; exact R.top
  row := R.row.of_block (fun k hk _ => hb k (R.fv k hk))
  wf := R.wf
  fb := R.fb
  fv := R.fv
  lt := fun k hk => by have := R.lt k hk; omega
theorem PRep.mods (R : PRep w b p v fp) {w' : World} {F : Nat → Prop} (M : Mods F w w') (hF : ∀ k, fp k → ¬ F k) : PRep w' b p v fp :=
  R.keep M.size (fun k hk => M.block k (R.lt k hk) (hF k hk))
theorem PRep.ne (R : PRep w b p v fp) {k : Nat} (hk : v.ownBlock = some k) : b ≠ k := by
  rintro rfl
  obtain ⟨cur, hc⟩ := R.row.block hk
  have h := R.top
  rw [hc] at h
  simp [tPool, tFrame] at h
/-- Where a frame in use lies. -/
theorem PRep.frame (R : PRep w b p v fp) {f : Int} {x : Frm} (h : p.at_ f = some x) : ∃ g off cap, v = .slice (some ⟨g, off, none⟩) p.frames.length cap ∧
    w.rangeAt g (off + f.toNat * 65) (fcells x) ∧ w.there g (off + f.toNat * 65) 65 := by
  obtain ⟨h0, hx, hu⟩ := Pool.at_some h
  have hlt := (List.getElem?_eq_some_iff.1 hx).1
  have hl := fcells_len (R.wf x (List.mem_of_getElem? hx))
  rcases R.row.2 with ⟨rfl, hn⟩ | ⟨g, off, cap, cur, rfl, _⟩
  · omega
  · refine ⟨g, off, cap, rfl, fun j u hj => ?_, ?_⟩
    · have := R.row.cells (f.toNat * 65 + j) u (by rw [flat_get R.flen hx (by have := (List.getElem?_eq_some_iff.1 hj).1; omega)]; exact hj)
      rw [← Nat.add_assoc] at this; exact this
    · refine R.row.there ?_
      calc f.toNat * 65 + 65 = (f.toNat + 1) * 65 := by omega
        _ ≤ _ := Nat.mul_le_mul_right _ hlt

/-- The pointer to a frame in use. -/
def Pool.ptr (p : Pool) (v : Value) (f : Int) : Value := match p.at_ f with
  | none => .pointer none
  | some _ => match v with
    | .slice (some a) _ _ => .pointer (some (a.add (f.toNat * 65)))
    | _ => .pointer none

set_option maxHeartbeats 400000 in
theorem pfind_calls (R : PRep w b p v fp) (f : Int) :
    Calls Try.prog 71 #[ptr b, i64 f] w fun e w' => e = .returned (p.ptr v f) ∧ w' = w := by
  have c0 : w.cell? ⟨b, 0, none⟩ = some v := (cell_of (o := 0) R.top).trans rfl
  by_cases hneg : f < 0
  · have H := Lib.hid (show p.ptr v f = .pointer none by simp [Pool.ptr, Pool.at_, hneg])
    go_enter Try.func71, Try.ntmps71
    go_wp2
    go_ret
    rw [H.out]; exact ⟨rfl, rfl⟩
  · obtain ⟨k, rfl⟩ : ∃ k : Nat, f = k := ⟨f.toNat, by omega⟩
    by_cases hlen : k < p.frames.length
    · obtain ⟨x, hx⟩ : ∃ x, p.frames[k]? = some x := ⟨_, List.getElem?_eq_getElem hlen⟩
      have hl := R.wf x (List.mem_of_getElem? hx)
      have hc := flat_get R.flen hx (j := 64) (by omega)
      rw [show (fcells x)[64]? = some (i64 x.users) by simp [fcells, hl]] at hc
      have hrow := R.row
      rcases hrow.2 with ⟨rfl, hn⟩ | ⟨g, off, cap, cur, rfl, _⟩
      · omega
      have cu := hrow.cells _ _ hc
      rw [← Nat.add_assoc] at cu
      by_cases hu : x.users = 0
      · have H := Lib.hid (show p.ptr (.slice (some ⟨g, off, none⟩) p.frames.length cap) k = .pointer none by simp [Pool.ptr, Pool.at_, hx, hu])
        rw [hu] at cu
        have hb : decide ((p.frames.length : Int) ≤ (k : Int)) = false := by simp; omega
        clear hrow hx hc hl hu R
        generalize p.frames.length = n at *
        go_enter Try.func71, Try.ntmps71
        go_wp2
        go_ret
        rw [H.out]; exact ⟨rfl, rfl⟩
      · have H := Lib.hid (show p.ptr (.slice (some ⟨g, off, none⟩) p.frames.length cap) k = .pointer (some ⟨g, off + k * 65, none⟩) by simp [Pool.ptr, Pool.at_, hx, hu, add_lit', hneg])
        have hub : (x.users == 0) = false := by simpa using hu
        have hb : decide ((p.frames.length : Int) ≤ (k : Int)) = false := by simp; omega
        clear hrow hx hc hl hu R
        generalize p.frames.length = n at *
        generalize x.users = us at *
        go_enter Try.func71, Try.ntmps71
        go_wp2
        go_ret
        rw [H.out]; exact ⟨rfl, rfl⟩
    · have H := Lib.hid (show p.ptr v k = .pointer none by
        have : p.frames[k]? = none := List.getElem?_eq_none (by omega)
        simp [Pool.ptr, Pool.at_, this])
      obtain ⟨a, c, rfl⟩ := R.row.shape
      clear R
      generalize p.frames.length = n at *
      go_enter Try.func71, Try.ntmps71
      go_wp2
      go_ret
      rw [H.out]; exact ⟨rfl, rfl⟩

theorem PRep.setUsers {g off cap : Nat} (R : PRep w b p (.slice (some ⟨g, off, none⟩) p.frames.length cap) fp) {f : Int} {x : Frm} (h : p.at_ f = some x) (u : Int) :
    PRep (w.setCell ⟨g, off + f.toNat * 65 + 64, none⟩ (i64 u)) b (p.set f { x with users := u }) (.slice (some ⟨g, off, none⟩) p.frames.length cap) fp := by
  obtain ⟨h0, hx, hu⟩ := Pool.at_some h
  have hl := R.wf x (List.mem_of_getElem? hx)
  have hne := R.ne (k := g) rfl
  refine ⟨by rw [hp_setCell_ne _ _ _ _ hne]; exact R.top, ?_, ?_, R.fb, R.fv, fun k hk => by have := R.lt k hk; simpa [World.setCell] using this⟩
  · have := R.row.setCell (f.toNat * 65 + 64) (i64 u)
    rw [flat_set R.flen hx (f' := { x with users := u }) (by omega) (by simp [fcells, hl])] at this
    rw [Nat.add_assoc]
    simpa [Pool.set] using this
  · intro y hy
    rcases List.mem_or_eq_of_mem_set hy with hy | rfl
    · exact R.wf y hy
    · exact hl
theorem PRep.setData {g off cap : Nat} (R : PRep w b p (.slice (some ⟨g, off, none⟩) p.frames.length cap) fp) {f : Int} {x : Frm} (h : p.at_ f = some x) {j : Nat} {news : List Int} (hj : j + news.length ≤ 64) :
    PRep (w.setCells g (off + f.toNat * 65 + j) (news.map u8)) b (p.set f { x with data := x.data.take j ++ news ++ x.data.drop (j + news.length) }) (.slice (some ⟨g, off, none⟩) p.frames.length cap) fp := by
  obtain ⟨h0, hx, hu⟩ := Pool.at_some h
  have hl := R.wf x (List.mem_of_getElem? hx)
  have hne := R.ne (k := g) rfl
  have hlt := (List.getElem?_eq_some_iff.1 hx).1
  have M := setCells_mods g (news.map u8) (off + f.toNat * 65 + j) w
  refine ⟨by rw [M.block b (R.lt b R.fb) hne]; exact R.top, ?_, ?_, R.fb, R.fv, fun k hk => by have := R.lt k hk; have := M.size; omega⟩
  · have := R.row.setCells (news.map u8) (f.toNat * 65 + j) w _ (by
      rw [List.length_map]
      calc f.toNat * 65 + j + news.length ≤ (f.toNat + 1) * 65 := by omega
        _ ≤ _ := Nat.mul_le_mul_right _ hlt)
    rw [flat_splice R.flen hx (f' := { x with data := x.data.take j ++ news ++ x.data.drop (j + news.length) }) (by simp; omega)
      (by simp only [fcells, List.map_append, List.length_map]
          rw [List.take_append_of_le_length (by simp; omega), List.drop_append_of_le_length (by simp; omega), List.map_take, List.map_drop, List.append_assoc])] at this
    rw [Nat.add_assoc]
    simpa [Pool.set] using this
  · intro y hy
    rcases List.mem_or_eq_of_mem_set hy with hy | rfl
    · exact R.wf y hy
    · simp; omega
theorem PRep.setTop (R : PRep w b p v fp) (c : Nat) (val v' : Value) (p' : Pool) (hf : p'.frames = p.frames) (hc : (#[v, i64 p.cap, i64 p.used] : Array Value).setIfInBounds c val = #[v', i64 p'.cap, i64 p'.used]) (hv : v' = v) :
    PRep (w.setCell ⟨b, c, none⟩ val) b p' v' fp := by
  subst hv
  refine ⟨by rw [hp_setCell_same _ _ _ _ _ _ _ R.top, hc], ?_, by rw [hf]; exact R.wf, R.fb, R.fv, fun k hk => by have := R.lt k hk; simpa [World.setCell] using this⟩
  rw [hf]
  exact R.row.of_block (fun k hk _ => hp_setCell_ne _ _ _ _ (fun h => R.ne hk h.symm))

/-- What a pool's call leaves. -/
def PUpd (b : Nat) (p' : Pool) (fp : Nat → Prop) (w w' : World) : Prop := ∃ v' fp', PRep w' b p' v' fp' ∧ Mods fp w w' ∧ ∀ k, fp' k → fp k ∨ w.heap.size ≤ k
def PPost (b : Nat) (p' : Pool) (fp : Nat → Prop) (val : Value) (w : World) (e : Ending) (w' : World) : Prop := e = .returned val ∧ PUpd b p' fp w w'

set_option maxHeartbeats 400000 in
theorem proom_calls (R : PRep w b p v fp) : Calls Try.prog 50 #[ptr b] w fun e w' => e = .returned (i64 (wrap64 (p.cap - p.used))) ∧ ∃ n, w' = w.drewN n := by
  have c1 : w.cell? ⟨b, 1, none⟩ = some (i64 p.cap) := (cell_of (o := 1) R.top).trans rfl
  have c2 : w.cell? ⟨b, 2, none⟩ = some (i64 p.used) := (cell_of (o := 2) R.top).trans rfl
  clear R
  generalize p.cap = cp at *
  generalize p.used = us at *
  go_enter Try.func50, Try.ntmps50
  go_wp2
  go_quiet (fail)
  go_wp2
  go_ret
  exact ⟨rfl, _, rfl⟩

set_option maxHeartbeats 400000 in
theorem pusers_calls (R : PRep w b p v fp) (f : Int) : Calls Try.prog 66 #[ptr b, i64 f] w fun e w' => e = .returned (i64 (p.users f)) ∧ w' = w := by
  have HF := Lib.hid (pfind_calls R f)
  cases h : p.at_ f with
  | none =>
    have H := Lib.hid (show p.users f = 0 by simp [Pool.users, h])
    rw [show p.ptr v f = .pointer none by simp [Pool.ptr, h]] at HF
    clear h R
    go_enter Try.func66, Try.ntmps66
    go_wp2_with (go_at_call 71; refine HF.out.mono ?_; rintro e w' ⟨rfl, rfl⟩)
    go_ret
    rw [H.out]; exact ⟨rfl, rfl⟩
  | some x =>
    have H := Lib.hid (show p.users f = x.users by simp [Pool.users, h])
    obtain ⟨g, off, cap, rfl, hr, ht⟩ := R.frame h
    have hl := R.wf x (List.mem_of_getElem? (Pool.at_some h).2.1)
    rw [show p.ptr _ f = .pointer (some ⟨g, off + f.toNat * 65, none⟩) by simp [Pool.ptr, h, add_lit']] at HF
    have cu := hr 64 (i64 x.users) (by simp [fcells, hl])
    clear h R hr ht hl
    generalize off + f.toNat * 65 = q at *
    generalize x.users = us at *
    go_enter Try.func66, Try.ntmps66
    go_wp2_with (go_at_call 71; refine HF.out.mono ?_; rintro e w' ⟨rfl, rfl⟩)
    go_ret
    rw [H.out]; exact ⟨rfl, rfl⟩

set_option maxHeartbeats 400000 in
theorem pshare_calls (R : PRep w b p v fp) (f : Int) : Calls Try.prog 47 #[ptr b, i64 f] w (PPost b (p.share f).1 fp (i64 (p.share f).2) w) := by
  have HF := Lib.hid (pfind_calls R f)
  cases h : p.at_ f with
  | none =>
    have H := Lib.hid (show p.share f = (p, -25) by simp [Pool.share, h])
    rw [show p.ptr v f = .pointer none by simp [Pool.ptr, h]] at HF
    have HR := Lib.hid R
    clear h R
    go_enter Try.func47, Try.ntmps47
    go_wp2_with (go_at_call 71; refine HF.out.mono ?_; rintro e w' ⟨rfl, rfl⟩)
    go_ret
    rw [H.out]; exact ⟨rfl, v, fp, HR.out, Mods.refl _ _, fun _ h => .inl h⟩
  | some x =>
    have H := Lib.hid (show p.share f = (p.set f { x with users := wrap64 (x.users + 1) }, 0) by simp [Pool.share, h])
    obtain ⟨g, off, cap, rfl, hr, ht⟩ := R.frame h
    have hl := R.wf x (List.mem_of_getElem? (Pool.at_some h).2.1)
    rw [show p.ptr _ f = .pointer (some ⟨g, off + f.toNat * 65, none⟩) by simp [Pool.ptr, h, add_lit']] at HF
    have cu := hr 64 (i64 x.users) (by simp [fcells, hl])
    have fu := (ht 64 (by omega)).2
    have HS := Lib.hid (R.setUsers h)
    have Hfp := Lib.hid (R.fv g rfl)
    clear h R hr ht hl
    generalize off + f.toNat * 65 = q at *
    generalize hus : x.users = us at *
    clear hus
    go_enter Try.func47, Try.ntmps47
    go_wp2_with (go_at_call 71; refine HF.out.mono ?_; rintro e w' ⟨rfl, rfl⟩)
    go_ret
    rw [H.out]; exact ⟨rfl, _, fp, HS.out _, (Mods.refl _ _).setCell (.inl Hfp.out) _, fun _ h => .inl h⟩

set_option maxHeartbeats 400000 in
theorem prelease_calls (R : PRep w b p v fp) (f : Int) : Calls Try.prog 73 #[ptr b, i64 f] w (PPost b (p.release f).1 fp (i64 (p.release f).2) w) := by
  have HF := Lib.hid (pfind_calls R f)
  cases h : p.at_ f with
  | none =>
    have H := Lib.hid (show p.release f = (p, -25) by simp [Pool.release, h])
    rw [show p.ptr v f = .pointer none by simp [Pool.ptr, h]] at HF
    have HR := Lib.hid R
    clear h R
    go_enter Try.func73, Try.ntmps73
    go_wp2_with (go_at_call 71; refine HF.out.mono ?_; rintro e w' ⟨rfl, rfl⟩)
    go_ret
    rw [H.out]; exact ⟨rfl, v, fp, HR.out, Mods.refl _ _, fun _ h => .inl h⟩
  | some x =>
    have H := Lib.hid (show p.release f = if wrap64 (x.users - 1) = 0 then ({ p.set f { x with users := 0 } with used := wrap64 (p.used - 1) }, 0) else (p.set f { x with users := wrap64 (x.users - 1) }, 0) by simp [Pool.release, h])
    obtain ⟨g, off, cap, rfl, hr, ht⟩ := R.frame h
    have hl := R.wf x (List.mem_of_getElem? (Pool.at_some h).2.1)
    rw [show p.ptr _ f = .pointer (some ⟨g, off + f.toNat * 65, none⟩) by simp [Pool.ptr, h, add_lit']] at HF
    have cu := hr 64 (i64 x.users) (by simp [fcells, hl])
    have fu := (ht 64 (by omega)).2
    have c2 : w.cell? ⟨b, 2, none⟩ = some (i64 p.used) := (cell_of (o := 2) R.top).trans rfl
    have f2 : w.frozen? ⟨b, 2, none⟩ = false := frozen_of R.top
    have hne := R.ne (k := g) rfl
    have HS := Lib.hid (R.setUsers h)
    have Hfp := Lib.hid (R.fv g rfl)
    have Hfb := Lib.hid R.fb
    clear h R hr ht hl
    generalize off + f.toNat * 65 = q at *
    generalize hus : x.users = us at *
    generalize hud : p.used = ud at *
    by_cases hz : wrap64 (us - 1) = 0
    · have Hz := Lib.hid hz
      have Hud := Lib.hid hud
      rw [if_pos hz] at H
      have hzb : (wrap64 (us - 1) == 0) = true := by simpa using hz
      clear hus hud
      go_enter Try.func73, Try.ntmps73
      go_wp2_with (go_at_call 71; refine HF.out.mono ?_; rintro e w' ⟨rfl, rfl⟩)
      go_ret
      rw [H.out]; refine ⟨rfl, _, fp, (HS.out 0).setTop 2 _ _ _ rfl ?_ rfl, ((Mods.refl _ _).setCell (.inl Hfp.out) _).setCell (.inl Hfb.out) _, fun _ h => .inl h⟩
      simp [Pool.set, Hud.out]
    · have Hz := Lib.hid hz
      rw [if_neg hz] at H
      have hzb : (wrap64 (us - 1) == 0) = false := by simpa using hz
      clear hus hud hz
      go_enter Try.func73, Try.ntmps73
      go_wp2_with (go_at_call 71; refine HF.out.mono ?_; rintro e w' ⟨rfl, rfl⟩)
      go_ret
      rw [H.out]; exact ⟨rfl, _, fp, HS.out _, (Mods.refl _ _).setCell (.inl Hfp.out) _, fun _ h => .inl h⟩
end
end Go.Proofs.Ytkifgoadbnpofaa
