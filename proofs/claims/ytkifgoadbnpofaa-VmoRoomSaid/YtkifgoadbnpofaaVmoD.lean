/- Walks of layer 8: release, commit. -/
import Derived.Test.YtkifgoadbnpofaaVmoC
namespace Go.Proofs.Ytkifgoadbnpofaa
open Go Go.RowKit
set_option maxRecDepth 100000

section
variable {w : World} {Y : Lay} {S : Vset} {pv : Value} {pf : Nat → Prop}
/-- What a call leaves that writes to frames and pool alone: everything lies where it lay, but for the pool's frames. -/
def VKeep (Y : Lay) (S' : Vset) (pf : Nat → Prop) (w w' : World) : Prop :=
  ∃ pv' pf', VRep w' Y S' pv' pf' ∧ Mods (fun k => pf k ∨ Y.of k) w w' ∧ ∀ k, pf' k → pf k ∨ w.heap.size ≤ k
theorem VKeep.refl (R : VRep w Y S pv pf) : VKeep Y S pf w w := ⟨pv, pf, R, Mods.refl _ _, fun _ h => .inl h⟩

/-- An object's frames are others. -/
theorem VRep.setFrames (R : VRep w Y S pv pf) {id : Int} {o : Vobj} (hg : S.at_ id = some o) (hsl : o.slice = false) {w' : World} {fr : List (Int × Int)} (hs : w.heap.size ≤ w'.heap.size)
    (hb : ∀ k, k < w.heap.size → k ≠ Y.mb id → w'.heap[k]? = w.heap[k]?) (hw : MapAt w' (Y.mb id) (encI fr)) : VRep w' Y (S.set id { o with frames := fr }) pv pf := by
  have hm := get_mem hg
  have hof : Y.of (Y.mb id) := R.ff _ hm hsl
  have hne : ∀ k, (pf k ∨ Y.of k) → k ≠ Y.mb id → w'.heap[k]? = w.heap[k]? := fun k hk hn => hb k (by rcases hk with hk | hk; exact R.pool.lt k hk; exact R.lt k hk) hn
  have hmem : ∀ p, p ∈ (S.set id { o with frames := fr }).objs ↔ p = (id, { o with frames := fr }) ∨ (p ∈ S.objs ∧ p.1 ≠ id) := fun p => mem_put R.nodup
  have hkeys : ∀ p ∈ (S.set id { o with frames := fr }).objs, ∃ q ∈ S.objs, q.1 = p.1 ∧ p.2.slice = q.2.slice ∧ p.2.kids = q.2.kids ∧ (∀ b c, ocells p.2 b c = ocells q.2 b c) := by
    intro p hp
    rcases (hmem p).1 hp with rfl | ⟨h1, _⟩
    · exact ⟨_, hm, rfl, rfl, rfl, fun _ _ => rfl⟩
    · exact ⟨p, h1, rfl, rfl, rfl, fun _ _ => rfl⟩
  refine ⟨?_, ?_, ?_, ?_, ?_, ?_, ?_, ?_, ?_, ?_, ?_, nodup_put R.nodup _ _, R.sep, R.fs, R.fm, ?_, ?_, ?_, fun k hk => by have := R.lt k hk; omega⟩
  · rw [hne _ (.inr R.fs) (R.sf_ne hm hsl)]; exact R.top
  · exact R.pool.keep hs (fun k hk => hne k (.inl hk) (fun h => R.sep k hk (h ▸ hof)))
  · rw [obs_set hg]; exact R.map.of_block (hne _ (.inr R.fm) (Ne.symm (R.mne _ hm hsl)))
  · intro p hp
    obtain ⟨q, hq, e1, e2, e3, e4⟩ := hkeys p hp
    rw [← e1, e4, hne _ (.inr (R.fh q hq)) (R.f_ne hq hm hsl)]; exact R.hdr q hq
  · intro p hp hs'
    rcases (hmem p).1 hp with rfl | ⟨h1, h2⟩
    · exact hw
    · exact (R.frs p h1 hs').of_block (hne _ (.inr (R.ff p h1 hs')) (fun e => h2 (R.minj p h1 _ hm hs' hsl e)))
  · intro p hp
    obtain ⟨q, hq, e1, e2, e3, e4⟩ := hkeys p hp
    rw [← e1, e3]
    exact (R.kids q hq).of_block (fun k hk _ => hne k (.inr (R.fc q hq k hk)) (R.c_ne_f hq hm hsl hk))
  · intro p hp hs'
    rcases (hmem p).1 hp with rfl | ⟨h1, h2⟩
    · simp only at hs'; rw [hsl] at hs'; cases hs'
    · exact R.nofr p h1 hs'
  · intro p hp q hq e
    obtain ⟨p', hp', e1, _⟩ := hkeys p hp
    obtain ⟨q', hq', e2, _⟩ := hkeys q hq
    rw [← e1, ← e2] at e ⊢
    exact R.inj p' hp' q' hq' e
  · intro p hp q hq s1 s2 e
    obtain ⟨p', hp', e1, f1, _⟩ := hkeys p hp
    obtain ⟨q', hq', e2, f2, _⟩ := hkeys q hq
    rw [f1] at s1; rw [f2] at s2
    rw [← e1, ← e2] at e ⊢
    exact R.minj p' hp' q' hq' s1 s2 e
  · intro p hp s1
    obtain ⟨p', hp', e1, f1, _⟩ := hkeys p hp
    rw [f1] at s1; rw [← e1]
    exact R.mne p' hp' s1
  · intro p hp q hq e
    obtain ⟨p', hp', e1, _⟩ := hkeys p hp
    obtain ⟨q', hq', e2, _⟩ := hkeys q hq
    rw [← e1, ← e2] at e ⊢
    exact R.cinj p' hp' q' hq' e
  · intro p hp
    obtain ⟨p', hp', e1, _⟩ := hkeys p hp
    rw [← e1]; exact R.fh p' hp'
  · intro p hp s1
    obtain ⟨p', hp', e1, f1, _⟩ := hkeys p hp
    rw [f1] at s1; rw [← e1]
    exact R.ff p' hp' s1
  · intro p hp
    obtain ⟨p', hp', e1, _⟩ := hkeys p hp
    rw [← e1]; exact R.fc p' hp'

theorem encI_get (L : List (Int × Int)) (p : Int) : get (encI L) p = (get L p).map i64 := get_map (fun _ (v : Int) => i64 v) L p
theorem encI_put (L : List (Int × Int)) (p f : Int) : encI (put L p f) = put (encI L) p (i64 f) := map_put (fun _ (v : Int) => i64 v) L p f
theorem encI_del (L : List (Int × Int)) (p : Int) : encI (del L p) = del (encI L) p := map_del (fun _ (v : Int) => i64 v) L p

/-- A frame is laid at a page. -/
theorem VRep.putFrame (R : VRep w Y S pv pf) {id : Int} {o : Vobj} (hg : S.at_ id = some o) (hsl : o.slice = false) (p f : Int) :
    VRep (mPut w (Y.mb id) p (i64 f)) Y (S.set id { o with frames := put o.frames p f }) pv pf :=
  R.setFrames hg hsl (by simp) (fun k _ hk => mapPut_ne _ _ _ _ _ hk) (by rw [encI_put]; exact (R.frs _ (get_mem hg) hsl).put p (i64 f))
theorem VRep.delFrame (R : VRep w Y S pv pf) {id : Int} {o : Vobj} (hg : S.at_ id = some o) (hsl : o.slice = false) (p : Int) :
    VRep (mDel w (Y.mb id) p) Y (S.set id { o with frames := del o.frames p }) pv pf :=
  R.setFrames hg hsl (by simp) (fun k _ hk => mapDel_ne _ _ _ _ hk) (by rw [encI_del]; exact (R.frs _ (get_mem hg) hsl).del p)

set_option maxHeartbeats 1000000 in
theorem vrelease_calls (R : VRep w Y S pv pf) {id : Int} {o : Vobj} (hg : S.at_ id = some o) (hsl : o.slice = false) (p : Int) :
    Calls Try.prog 49 #[ptr Y.s, ptr (Y.blk id), i64 p] w fun e w' => e = .returned (.tuple #[]) ∧ VKeep Y (S.release id p) pf w w' := by
  have hm := get_mem hg
  have hh := R.hdr _ hm
  have c0 : w.cell? ⟨Y.s, 0, none⟩ = some (ptr Y.pb) := (cell_of (o := 0) R.top).trans rfl
  have c2 : w.cell? ⟨Y.blk id, 2, none⟩ = some (.map (some (Y.mb id))) := (cell_of (o := 2) hh).trans (by simp [ocells, framesV, hsl])
  have hF := R.frs _ hm hsl
  simp only at hF
  have hl := looksF (Y.mb id) (encI o.frames)
  have hd := deletesF (Y.mb id) (encI o.frames)
  have hk := encI_get o.frames p
  have HR := Lib.hid R
  have Hg := Lib.hid hg
  have Hsl := Lib.hid hsl
  generalize encI o.frames = F at hF hl hd hk
  cases hp : get o.frames p with
  | none =>
    have H := Lib.hid (show S.release id p = S by simp [Vset.release, hg, hp])
    rw [hp] at hk
    clear R hm hh hg hsl hp
    go_enter Try.func49, Try.ntmps49
    go_wp2
    go_end0
    rw [H.out]; exact ⟨rfl, VKeep.refl HR.out⟩
  | some f =>
    have H := Lib.hid (show S.release id p = { S with pool := (S.pool.release f).1 }.set id { o with frames := del o.frames p } by simp [Vset.release, hg, hp])
    rw [hp] at hk
    have HP := Lib.hid (prelease_calls R.pool f)
    have hml := hF.lt
    have hbl := hp_lt hh
    have hnb : ¬ pf (Y.blk id) := fun h => R.sep _ h (R.fh _ hm)
    have hnm : ¬ pf (Y.mb id) := fun h => R.sep _ h (R.ff _ hm hsl)
    clear R hm hh hg hsl hp
    go_enter Try.func49, Try.ntmps49
    go_wp2_with (go_at_call 73; refine HP.out.mono ?_; rintro e w1 ⟨rfl, pv1, pf1, hP1, hM1, hf1⟩; have HP1 := Lib.hid hP1; have HM1 := Lib.hid hM1; have Hf1 := Lib.hid hf1; have c2' := (hM1.cell (p := ⟨Y.blk id, 2, none⟩) hbl hnb).trans c2; have hF' := hF.of_block (hM1.block _ hml hnm); clear hP1 hM1 hf1)
    go_end0
    rw [H.out]
    have R1 := HR.out.pooled HP1.out HM1.out Hf1.out
    exact ⟨rfl, pv1, pf1, R1.delFrame (S := { S with pool := (S.pool.release f).1 }) Hg.out Hsl.out p, (HM1.out.mono (fun _ h => .inl (.inl h))).mDel (.inl (.inr (HR.out.ff _ (get_mem Hg.out) Hsl.out))) p, Hf1.out⟩
end
end Go.Proofs.Ytkifgoadbnpofaa
