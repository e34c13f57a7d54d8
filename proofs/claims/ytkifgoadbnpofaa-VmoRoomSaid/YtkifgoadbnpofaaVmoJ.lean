/- Walks of layer 8: add. -/
import Derived.Test.YtkifgoadbnpofaaVmoI
namespace Go.Proofs.Ytkifgoadbnpofaa
open Go Go.RowKit
set_option maxRecDepth 100000

/-- Where things lie behind an object more. -/
structure Added (Y : Lay) (S' : Vset) (pv : Value) (pf : Nat → Prop) (id : Int) (b mb : Nat) (w w' : World) : Prop where
  ex : ∃ Y', VRep w' Y' S' pv pf ∧ Y'.s = Y.s ∧ Y'.pb = Y.pb ∧ (∀ k, k ≠ id → Y'.blk k = Y.blk k ∧ Y'.mb k = Y.mb k) ∧ Y'.blk id = b ∧ Y'.mb id = mb ∧ Mods Y.of w w' ∧
    ∀ k, Y'.of k → Y.of k ∨ k = b ∨ k = mb ∨ w.heap.size ≤ k
def AddFull (Y : Lay) (S : Vset) (pv : Value) (pf : Nat → Prop) (w : World) (e : Ending) (w' : World) : Prop :=
  e = .returned (.tuple #[i64 0, i64 (-4)]) ∧ VRep w' Y S pv pf ∧ Mods (fun _ => False) w w'
def AddPost (Y : Lay) (S' : Vset) (pv : Value) (pf : Nat → Prop) (id : Int) (b mb : Nat) (w : World) (e : Ending) (w' : World) : Prop :=
  e = .returned (.tuple #[i64 id, i64 0]) ∧ Added Y S' pv pf id b mb w w'

section
variable {w : World} {Y : Lay} {S : Vset} {pv : Value} {pf : Nat → Prop}
set_option maxHeartbeats 2000000 in
theorem vadd_full (R : VRep w Y S pv pf) (b : Nat) (hfull : S.most ≤ S.objs.length) : Calls Try.prog 39 #[ptr Y.s, ptr b] w (AddFull Y S pv pf w) := by
  have c1 : w.cell? ⟨Y.s, 1, none⟩ = some (.map (some Y.m)) := (cell_of (o := 1) R.top).trans rfl
  have c2 : w.cell? ⟨Y.s, 2, none⟩ = some (i64 S.most) := (cell_of (o := 2) R.top).trans rfl
  have hM := R.map
  have hl := lensO Y.m (obs S Y)
  have hc : S.most ≤ ((obs S Y).length : Int) := by simpa [obs] using hfull
  have HR := Lib.hid R
  generalize obs S Y = L at *
  clear hfull R
  go_enter Try.func39, Try.ntmps39
  go_wp2
  go_quiet (fail)
  go_wp2
  go_ret2
  exact ⟨rfl, HR.out.keep (by simp) (fun _ _ => rfl), (Mods.refl _ _).drewN _⟩

/-- One child more behind an append. -/
theorem VRep.kidMore (R : VRep w Y S pv pf) {par id : Int} {up : Vobj} (hg : S.at_ par = some up) {v9 : Value} {w9 : World} (hrow : Row w9 tInt 1 v9 (up.kids.length + 1) (up.kids.map i64 ++ [i64 id]))
    (hgr : (w.alloc (.cells #[i64 id] tInt)).grownBy w9 (Y.cs par).ownBlock) (hown : v9.ownBlock = (Y.cs par).ownBlock ∨ v9.ownBlock = some (w.alloc (.cells #[i64 id] tInt)).heap.size) :
    (w9.cell? ⟨Y.blk par, 3, none⟩ = some (Y.cs par) ∧ w9.frozen? ⟨Y.blk par, 3, none⟩ = false ∧ (w9.setCell ⟨Y.blk par, 3, none⟩ v9).cell? ⟨Y.s, 3, none⟩ = some (i64 S.last) ∧ w9.cell? ⟨Y.s, 3, none⟩ = some (i64 S.last) ∧ Y.s ≠ Y.blk par) ∧
    VRep (w9.setCell ⟨Y.blk par, 3, none⟩ v9) (Y.setCs par v9) (S.set par { up with kids := up.kids ++ [id] }) pv pf ∧ Mods (fun k => k = Y.blk par ∨ (Y.cs par).ownBlock = some k) w (w9.setCell ⟨Y.blk par, 3, none⟩ v9) ∧
    ∀ k, v9.ownBlock = some k → (Y.cs par).ownBlock = some k ∨ w.heap.size ≤ k := by
  have hm := get_mem hg
  have hlt : ∀ k, (pf k ∨ Y.of k) → k < w.heap.size := fun k hk => by rcases hk with hk | hk; exact R.pool.lt k hk; exact R.lt k hk
  have hold : ∀ k, k < w.heap.size → (Y.cs par).ownBlock ≠ some k → w9.heap[k]? = w.heap[k]? := fun k hk hn => by
    rw [hgr.block k (by simp; omega) (fun h => hn h.symm), hp_alloc_old _ _ _ hk]
  have hh : w9.heap[Y.blk par]? = some (.cells (ocells up (Y.mb par) (Y.cs par)) tVobj (0, 0)) := by
    rw [hold _ (R.lt _ (R.fh _ hm)) (fun h => R.c_ne hm hm h rfl)]; exact R.hdr _ hm
  have ht : w9.heap[Y.s]? = some (.cells #[ptr Y.pb, .map (some Y.m), i64 S.most, i64 S.last] tSet (0, 0)) := by
    rw [hold _ (R.lt _ R.fs) (fun h => R.c_ne_s hm h rfl)]; exact R.top
  have hfr : ∀ k, v9.ownBlock = some k → (Y.cs par).ownBlock = some k ∨ w.heap.size ≤ k := fun k hk => by
    rcases hown with h | h
    · exact .inl (by rw [← h]; exact hk)
    · rw [hk] at h; cases h; right; simp
  have hkb : ∀ k, v9.ownBlock = some k → k ≠ Y.blk par := by
    rintro k hk rfl
    obtain ⟨cur, hc⟩ := hrow.block hk
    rw [hh] at hc
    simp [tVobj, tInt] at hc
  have hsz : w.heap.size ≤ w9.heap.size := Nat.le_trans (by simp) hgr.size
  refine ⟨⟨(cell_of (o := 3) hh).trans rfl, frozen_of hh, ?_, (cell_of (o := 3) ht).trans rfl, R.s_ne hm⟩, ?_, ?_, hfr⟩
  · rw [cell_of (o := 3) (show (w9.setCell ⟨Y.blk par, 3, none⟩ v9).heap[Y.s]? = _ from (hp_setCell_ne _ _ _ _ (R.s_ne hm)).trans ht)]; rfl
  · refine R.setKids hg (by simpa using hsz) (fun k hk h1 h2 => ?_) ?_ ?_ (fun k hk => ?_)
    · rw [hp_setCell_ne _ _ _ _ h1]
      exact hold k (hlt k hk) h2
    · rw [hp_setCell_same _ _ _ _ _ _ _ hh]; rfl
    · have := hrow.of_block (w' := w9.setCell ⟨Y.blk par, 3, none⟩ v9) (fun k hk _ => hp_setCell_ne _ _ _ _ (hkb k hk))
      simpa using this
    · rcases hfr k hk with h | h
      · exact .inl h
      · exact .inr ⟨fun h' => by have := R.lt k h'; omega, fun h' => by have := R.pool.lt k h'; omega⟩
  · refine Mods.setCell ?_ (.inl (.inl rfl)) _
    exact ((Mods.refl _ w).alloc _).grown hgr (fun k hk => .inl (.inr hk))

theorem Vset.add_ok {S : Vset} {o : Vobj} {id : Int} (hfull : ¬ S.most ≤ S.objs.length) (hid : id = wrap64 (S.last + 1)) (hp : o.parent ≠ id) :
    S.add o = match S.at_ o.parent with
      | some up => (({ S with last := id, objs := put S.objs id o } : Vset).set o.parent { up with kids := up.kids ++ [id] }, id, 0)
      | none => ({ S with last := id, objs := put S.objs id o }, id, 0) := by
  have h1 : ({ S with last := id, objs := put S.objs id o } : Vset).at_ o.parent = S.at_ o.parent := by
    show get (put S.objs id o) o.parent = _
    rw [get_put, if_neg (fun h => hp h.symm)]; rfl
  unfold Vset.add
  rw [if_neg hfull]
  simp only [← hid, h1]
  cases S.at_ o.parent <;> rfl

set_option maxHeartbeats 4000000 in
theorem vadd_calls (R : VRep w Y S pv pf) {b mb : Nat} {o : Vobj} {id : Int} (hfull : ¬ S.most ≤ S.objs.length) (hid : id = wrap64 (S.last + 1)) (hn : S.at_ id = none) (hp : o.parent ≠ id)
    (hk : o.kids = []) (hfr : o.frames = []) (hb : ¬ Y.of b ∧ ¬ pf b) (hmb : o.slice = false → ¬ Y.of mb ∧ ¬ pf mb)
    (hhdr : w.heap[b]? = some (.cells (ocells o mb (.slice none 0 0)) tVobj (0, 0))) (hfrs : o.slice = false → MapAt w mb []) (hkl : ∀ up, S.at_ o.parent = some up → up.kids.length ≤ 65536) :
    Calls Try.prog 39 #[ptr Y.s, ptr b] w (AddPost Y (S.add o).1 pv pf id b mb w) := by
  have c1 : w.cell? ⟨Y.s, 1, none⟩ = some (.map (some Y.m)) := (cell_of (o := 1) R.top).trans rfl
  have c2 : w.cell? ⟨Y.s, 2, none⟩ = some (i64 S.most) := (cell_of (o := 2) R.top).trans rfl
  have c3 : w.cell? ⟨Y.s, 3, none⟩ = some (i64 S.last) := (cell_of (o := 3) R.top).trans rfl
  have f3 : w.frozen? ⟨Y.s, 3, none⟩ = false := frozen_of R.top
  have hM := R.map
  have hml := R.map.lt
  have hl := lensO Y.m (obs S Y)
  have hu := updatesO Y.m (obs S Y)
  have hlk := lookupsO Y.m (put (obs S Y) id (ptr b))
  have hc : decide (S.most ≤ ((obs S Y).length : Int)) = false := by simpa [obs] using hfull
  have HR := Lib.hid R
  have Hadd := Lib.hid (Vset.add_ok hfull hid hp)
  have hget : get (put (obs S Y) id (ptr b)) o.parent = (S.at_ o.parent).map fun _ => ptr (Y.blk o.parent) := by
    rw [get_put, if_neg (fun h => hp h.symm)]; exact R.look o.parent
  have hbs : b ≠ Y.s := fun h => hb.1 (h ▸ R.fs)
  have hbm : b ≠ Y.m := fun h => hb.1 (h ▸ R.fm)
  have hsm := R.sm_ne
  have hbl := hp_lt hhdr
  have hsl := hp_lt R.top
  have Hb := Lib.hid hb
  have Hmb := Lib.hid hmb
  have Hhdr := Lib.hid hhdr
  have Hfrs := Lib.hid hfrs
  have Hfr := Lib.hid hfr
  have Hk := Lib.hid hk
  have Hn := Lib.hid hn
  have Hkl := Lib.hid hkl
  have cb : w.cell? ⟨b, 1, none⟩ = some (i64 o.parent) := (cell_of (o := 1) hhdr).trans rfl
  /- the world behind the new entry -/
  have HW2 := Lib.hid (fun (n : Nat) => (show
      let W2 := mPut ((w.drewN n).setCell ⟨Y.s, 3, none⟩ (i64 id)).drew Y.m id (ptr b)
      VRep W2 (Y.add id b mb o.slice) { S with last := id, objs := put S.objs id o } pv pf ∧ Mods Y.of w W2 ∧ W2.cell? ⟨Y.s, 1, none⟩ = some (.map (some Y.m)) ∧ W2.cell? ⟨Y.s, 3, none⟩ = some (i64 id) ∧ W2.cell? ⟨b, 1, none⟩ = some (i64 o.parent) ∧
        MapAt W2 Y.m (put (obs S Y) id (ptr b)) by
    intro W2
    have hW1 : ∀ k, k ≠ Y.s → ((w.drewN n).setCell ⟨Y.s, 3, none⟩ (i64 id)).drew.heap[k]? = w.heap[k]? := fun k hk => hp_setCell_ne (w.drewN n) _ _ _ hk
    have hW2 : ∀ k, k ≠ Y.s → k ≠ Y.m → W2.heap[k]? = w.heap[k]? := fun k hk hk2 => (mapPut_ne _ _ _ _ _ hk2).trans (hW1 k hk)
    have hs2 : W2.heap.size = w.heap.size := by simp [W2, World.setCell]
    have ht : W2.heap[Y.s]? = some (.cells #[ptr Y.pb, .map (some Y.m), i64 S.most, i64 id] tSet (0, 0)) := by
      rw [show W2.heap[Y.s]? = _ from mapPut_ne _ _ _ _ _ hsm]
      exact (hp_setCell_same (w.drewN n) Y.s 3 (i64 id) _ _ _ R.top).trans rfl
    have hm2 : MapAt W2 Y.m (put (obs S Y) id (ptr b)) := by
      refine MapAt.put ?_ _ _
      exact R.map.of_block (hW1 _ (Ne.symm hsm))
    have hh2 : W2.heap[b]? = some (.cells (ocells o mb (.slice none 0 0)) tVobj (0, 0)) := by rw [hW2 b hbs hbm]; exact hhdr
    refine ⟨R.add hn hk hfr (by omega) ⟨hb.1, hb.2, by omega⟩ (fun hs => ⟨(hmb hs).1, (hmb hs).2, by have := (hfrs hs).lt; omega⟩) (fun k hk h1 h2 => hW2 k h1 h2) ht hm2 hh2
      (fun hs => (hfrs hs).of_block (hW2 _ (fun h => (hmb hs).1 (h ▸ R.fs)) (fun h => (hmb hs).1 (h ▸ R.fm)))), ?_, (cell_of (o := 1) ht).trans rfl, (cell_of (o := 3) ht).trans rfl, (cell_of (o := 1) hh2).trans rfl, hm2⟩
    exact ((((Mods.refl Y.of w).drewN n).setCell (p := ⟨Y.s, 3, none⟩) (.inl R.fs) (i64 id)).drew).mPut (.inl R.fm) _ _))
  clear hk hfr hb hmb hhdr hfrs hn hkl hfull
  generalize hLL : obs S Y = L at *
  have HLL := Lib.hid hLL
  clear R hLL
  have hidw : wrap64 (S.last + 1) = id := hid.symm
  clear hid
  have hW1 : ∀ n, ((w.drewN n).setCell ⟨Y.s, 3, none⟩ (i64 id)).cell? ⟨Y.s, 1, none⟩ = some (.map (some Y.m)) ∧ ((w.drewN n).setCell ⟨Y.s, 3, none⟩ (i64 id)).cell? ⟨Y.s, 3, none⟩ = some (i64 id) ∧
      MapAt ((w.drewN n).setCell ⟨Y.s, 3, none⟩ (i64 id)) Y.m L := fun n =>
    ⟨by rw [World.cell?_setCell_other _ _ _ _ (by simp)]; exact c1, World.cell?_setCell_same _ _ _ (u := i64 S.last) c3, MapAt_setCell.2 (MapAt_drewN.2 hM)⟩
  have HW1 := Lib.hid hW1
  clear hW1
  cases hg : S.at_ o.parent with
  | none =>
    rw [hg] at hget Hadd
    have HG := Lib.hid hg
    clear hg
    go_enter Try.func39, Try.ntmps39
    go_wp2
    go_quiet (fail)
    go_wp2
    obtain ⟨g1, g3, gM⟩ := HW1.out nq
    obtain ⟨hR2, hM2, k1, k3, kb, kM⟩ := HW2.out nq
    have HR2 := Lib.hid hR2
    have HM2 := Lib.hid hM2
    clear hR2 hM2
    generalize (w.drewN nq).setCell ⟨Y.s, 3, none⟩ (i64 id) = W1 at *
    go_still_tail 9, (by kernel_rfl)
    try change wpList _ _ _ _ _ W1.drew
    go_wp2
    generalize mPut W1.drew Y.m id (ptr b) = W2 at *
    go_quiet (fail)
    go_wp2
    go_ret2
    rw [Hadd.out]
    refine ⟨rfl, ⟨_, HR2.out.keep (by simp) (fun _ _ => rfl), rfl, rfl, (fun k hk => by simp [Lay.add, hk]), by simp [Lay.add], by simp [Lay.add], HM2.out.drewN _, fun k hk => ?_⟩⟩
    rcases hk with hk | hk | hk
    · exact .inl hk
    · exact .inr (.inl hk)
    · exact .inr (.inr (.inl hk.2))
  | some up =>
    rw [hg] at hget Hadd
    obtain ⟨i0, hi, hz0, hz1, hz2⟩ := info_parts infoInt
    have Hi := Lib.hid hi
    have Hz0 := Lib.hid hz0
    have Hz1 := Lib.hid hz1
    have Hz2 := Lib.hid hz2
    have hup : ({ S with last := id, objs := put S.objs id o } : Vset).at_ o.parent = some up := by
      show get (put S.objs id o) o.parent = _
      rw [get_put, if_neg (fun h => hp h.symm)]; exact hg
    have HK := Lib.hid (fun (W : World) (R' : VRep W (Y.add id b mb o.slice) { S with last := id, objs := put S.objs id o } pv pf) (v9 : Value) (w9 : World) hrow hgr hown => R'.kidMore hup (v9 := v9) (w9 := w9) (id := id) hrow hgr hown)
    have eb : (Y.add id b mb o.slice).blk o.parent = Y.blk o.parent := by simp [Lay.add, hp]
    have ec : (Y.add id b mb o.slice).cs o.parent = Y.cs o.parent := by simp [Lay.add, hp]
    have Hrw := Lib.hid (fun (W : World) (R' : VRep W (Y.add id b mb o.slice) { S with last := id, objs := put S.objs id o } pv pf) => (show
        (W.cell? ⟨Y.blk o.parent, 3, none⟩ = some (Y.cs o.parent) ∧ W.cell? ⟨Y.s, 3, none⟩ = some (i64 id)) ∧ Row (W.alloc (.cells #[i64 id] tInt)) tInt 1 (Y.cs o.parent) up.kids.length (up.kids.map i64) by
      have h1 := R'.hdr _ (get_mem hup)
      have h2 := R'.kids _ (get_mem hup)
      simp only [eb, ec] at h1 h2
      exact ⟨⟨(cell_of (o := 3) h1).trans rfl, (cell_of (o := 3) R'.top).trans rfl⟩, h2.of_block (fun k hk hlt => hp_alloc_old _ _ _ hlt)⟩))
    rw [eb, ec] at HK
    have Hsrc := Lib.hid (fun (W : World) => Src.fresh W 1 1 1 [i64 id] tInt rfl (by simp [i64, Value.oneCell']))
    have hkl := Hkl.out up hg
    have Hm := Lib.hid (show up.kids.length + 1 ≤ maxLen by unfold maxLen; omega)
    have Hby := Lib.hid (show (up.kids.length + 1) * 8 ≤ 140737488355328 by omega)
    have hsh := fun W R' => (Hrw.out W R').2.shape
    have Hof := Lib.hid (show Y.of (Y.blk o.parent) ∧ ∀ k, (Y.cs o.parent).ownBlock = some k → Y.of k from ⟨HR.out.fh _ (get_mem hg), HR.out.fc _ (get_mem hg)⟩)
    clear hg hi hz0 hz1 hz2 hup eb ec hkl
    generalize hcs : Y.cs o.parent = cs at *
    clear hcs
    go_enter Try.func39, Try.ntmps39
    go_wp2
    go_quiet (fail)
    go_wp2
    obtain ⟨g1, g3, gM⟩ := HW1.out nq
    obtain ⟨hR2, hM2, k1, k3, kb, kM⟩ := HW2.out nq
    have HR2 := Lib.hid hR2
    have HM2 := Lib.hid hM2
    obtain ⟨ca, cc, hcs⟩ := hsh _ hR2
    clear hR2 hM2 hsh
    subst hcs
    generalize (w.drewN nq).setCell ⟨Y.s, 3, none⟩ (i64 id) = W1 at *
    go_still_tail 9, (by kernel_rfl)
    try change wpList _ _ _ _ _ W1.drew
    go_wp2
    generalize mPut W1.drew Y.m id (ptr b) = W2 at *
    clear hM hl hu g1 g3 gM c1 c2 c3 f3 cb hc
    go_quiet (fail)
    go_wp2
    have HR3 := Lib.hid (show VRep (W2.drewN nq) (Y.add id b mb o.slice) { S with last := id, objs := put S.objs id o } pv pf from HR2.out.keep (by simp) (fun _ _ => rfl))
    have HM3 := Lib.hid (HM2.out.drewN nq)
    clear k1 k3 kb kM hlk
    generalize W2.drewN nq = W3 at *
    obtain ⟨⟨k3, ks⟩, _⟩ := Hrw.out _ HR3.out
    have HR4 := Lib.hid (show VRep W3.drew (Y.add id b mb o.slice) { S with last := id, objs := put S.objs id o } pv pf from HR3.out.keep (Nat.le_refl _) (fun _ _ => rfl))
    have HM4 := Lib.hid HM3.out.drew
    have hbl3 : Y.blk o.parent < W3.heap.size := World.block_lt_of_cell? W3 _ k3
    go_region_law ((refine step_append_row (v := .slice ca up.kids.length cc) rfl (.tmp 48) (.tmp 53) 46 rfl tInt i0 (.int .i64 0) 1 8 Try.underlying46 Hi.out Hz0.out Hz1.out Hz2.out rfl (by decide) rfl (Hrw.out _ HR4.out).2 rfl (Hsrc.out _) Hm.out Hby.out ?_; intro v9 w9 hrow hgr hblk hz; obtain ⟨a9, c9, rfl⟩ := hrow.shape; obtain ⟨⟨q1, q2, q3, q4, q5⟩, hR9, hM9, hf9⟩ := HK.out _ HR4.out _ w9 hrow hgr hblk; have q4' : w9.cell? ⟨Y.s, 3, none⟩ = some (i64 id) := q4; have q5' : Y.s ≠ Y.blk o.parent := q5; clear q3 q4 q5; have HR9 := Lib.hid hR9; have HM9 := Lib.hid hM9; have Hf9 := Lib.hid hf9; clear hrow hgr hblk hz hR9 hM9 hf9))
    all_goals
      go_wp2
      go_ret2
      rw [Hadd.out]
      refine ⟨rfl, ⟨_, HR9.out, rfl, rfl, (fun k hk => by simp [Lay.add, Lay.setCs, hk]), by simp [Lay.add, Lay.setCs], by simp [Lay.add, Lay.setCs], HM4.out.trans HM9.out (fun k hk => ?_), fun k hk => ?_⟩⟩
      · rcases hk with rfl | hk
        · exact .inl Hof.out.1
        · exact .inl (Hof.out.2 k hk)
      · rcases hk with (hk | hk | hk) | hk
        · exact .inl hk
        · exact .inr (.inl hk)
        · exact .inr (.inr (.inl hk.2))
        · rcases Hf9.out k hk with h | h
          · exact .inl (Hof.out.2 k h)
          · exact .inr (.inr (.inr (Nat.le_trans HM4.out.size h)))
end
end Go.Proofs.Ytkifgoadbnpofaa
