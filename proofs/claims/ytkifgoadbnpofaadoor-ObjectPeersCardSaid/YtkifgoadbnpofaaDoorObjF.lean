/- Walks of layer 18: Carry. -/
import Derived.Test.YtkifgoadbnpofaaDoorObjE
import Derived.Test.YtkifgoadbnpofaaDoorSweepPure
namespace Go.Proofs.YtkifgoadbnpofaaDoor
open Go Go.RowKit
set_option maxRecDepth 100000

theorem into_at (S : Obs) (id x : Int) : ((S.into id).at x).isSome = (S.at x).isSome := by
  unfold Obs.into
  cases h : S.at id with
  | none => rfl
  | some y =>
    simp only [at_set]
    by_cases e : id = x
    · subst e; simp [h]
    · simp [e]
theorem foldl_at {f : Obs → Int → Obs} (hf : ∀ S id x, ((f S id).at x).isSome = (S.at x).isSome) (l : List Int) (S : Obs) (x : Int) : ((l.foldl f S).at x).isSome = (S.at x).isSome := by
  induction l generalizing S with
  | nil => rfl
  | cons y l ih => rw [List.foldl_cons, ih, hf]
theorem spare_zero {S : Obs} {ids : List Int} (h : S.spare ids = 0) : ∀ x ∈ ids, (S.at x).isSome = true := by
  unfold Obs.spare at h
  cases hm : S.many ids with
  | none => rw [hm] at h; cases h
  | some n =>
    unfold Obs.many at hm
    split at hm
    · rename_i hall
      exact fun x hx => List.all_eq_true.1 hall x hx
    · cases hm

def OutPost (w : World) (o : Nat) (S' : Obs) (fp : Nat → Prop) (s : Int) (e : Ending) (w' : World) : Prop := e = .returned (i64 s) ∧ Upd (OR o S') fp w w'

theorem into_other (S : Obs) {id x : Int} (h : x ≠ id) : (S.into id).at x = S.at x := by
  unfold Obs.into
  cases hh : S.at id with
  | none => rfl
  | some y => simp only [at_set, if_neg (Ne.symm h)]
theorem fold_other {f : Obs → Int → Obs} (hf : ∀ S id x, x ≠ id → (f S id).at x = S.at x) (l : List Int) (S : Obs) (x : Int) (h : x ∉ l) : (l.foldl f S).at x = S.at x := by
  induction l generalizing S with
  | nil => rfl
  | cons y l ih =>
    simp only [List.mem_cons, not_or] at h
    rw [List.foldl_cons, ih _ h.2, hf _ _ _ h.1]

section
variable {w : World} {o : Nat} {S : Obs} {fp : Nat → Prop} {m : Nat} {blk : Int → Nat} {bg : Int → Value}

theorem fold_take (f : Obs → Int → Obs) (S : Obs) {ids : List Int} {k : Nat} (h : k < ids.length) : (ids.take (k + 1)).foldl f S = f ((ids.take k).foldl f S) (nth ids k) := by
  rw [take_nth h, List.foldl_append]; rfl

set_option maxHeartbeats 2000000 in
theorem carry_calls (R : ORep w o S fp m blk bg) (holder : Int) {v : Value} {ids : List Int} (hids : IntsAt w v ids) (hown : ∀ k, v.ownBlock = some k → k < w.heap.size ∧ ¬ fp k)
    (hsz : ∀ h, S.at holder = some h → (h.bag.length + ids.length) * 8 ≤ 140737488355328) :
    Calls Tryd.prog 10 #[ptr o, i64 holder, v] w (OutPost w o (S.carry holder ids).1 fp (S.carry holder ids).2) := by
  have c0 : w.cell? ⟨o, 0, none⟩ = some (.map (some m)) := (cell_of (o := 0) R.top).trans rfl
  have hM := R.map
  have hk := R.look holder
  have hl := lookups m (S.all.map fun p => (p.1, ptr (blk p.1)))
  have HR := Lib.hid R
  have Hids := Lib.hid hids
  have Hown := Lib.hid hown
  have Hsp := Lib.hid (spare_calls R hids)
  have Hct := Lib.hid (fun W (h : IntsAt W v ids) => contains_calls h holder)
  have Hsz := Lib.hid hsz
  generalize (S.all.map fun p => (p.1, ptr (blk p.1))) = L at hM hk hl
  clear hids hown hsz R
  cases hg : S.at holder with
  | none =>
    have Hc := Lib.hid (show S.carry holder ids = (S, -25) by simp [Obs.carry, hg])
    rw [hg] at hk
    clear hg
    go_enter Tryd.func10, Tryd.ntmps10
    go_wp2
    go_ret
    rw [Hc.out]
    exact ⟨rfl, Upd.same ⟨_, _, _, HR.out⟩ (Mods.refl _ _)⟩
  | some h =>
    rw [hg] at hk
    by_cases hs : S.spare ids = 0
    · by_cases hin : holder ∈ ids
      · have Hc := Lib.hid (show S.carry holder ids = (S, -10) by simp [Obs.carry, hg, hs, hin])
        rw [hs] at Hsp
        have hind : decide (holder ∈ ids) = true := by simpa using hin
        clear hg hs hin
        go_enter Tryd.func10, Tryd.ntmps10
        go_wp2_with (first
          | (go_at_call 23; refine Hsp.out.mono ?_; rintro e w1 ⟨rfl, hmod⟩; have Hmod := Lib.hid hmod; clear hmod)
          | (go_at_call 24; refine (Hct.out _ (Hids.out.of Hmod.out.size (fun k _ hlt => Hmod.out.block k hlt (fun h => h)))).mono ?_; rintro e w1' ⟨rfl, rfl⟩; rw [hind]))
        go_ret
        rw [Hc.out]
        exact ⟨rfl, Upd.same ⟨_, _, _, HR.out.mods Hmod.out (fun _ _ h => h)⟩ (Hmod.out.mono (fun _ h => h.elim))⟩
      · have Hc := Lib.hid (show S.carry holder ids = ((ids.foldl Obs.into S).bagTo holder ((ids.foldl Obs.into S).bagOf holder ++ ids), 0) by simp [Obs.carry, hg, hs, hin])
        have Hall := Lib.hid (spare_zero hs)
        rw [hs] at Hsp
        have hind : decide (holder ∈ ids) = false := by simpa using hin
        have Hg := Lib.hid hg
        have Hin := Lib.hid hin
        obtain ⟨a, c, rfl, _, _⟩ := Hids.out
        clear hg hs hin
        go_enter Tryd.func10, Tryd.ntmps10
        go_wp2_with (first
          | (go_at_call 23; refine Hsp.out.mono ?_; rintro e w1 ⟨rfl, hmod⟩; have Hmod := Lib.hid hmod; clear hmod)
          | (go_at_call 24; refine (Hct.out _ (Hids.out.of Hmod.out.size (fun k _ hlt => Hmod.out.block k hlt (fun h => h)))).mono ?_; rintro e w1' ⟨rfl, rfl⟩; rw [hind]))
        have MM : Mods fp w w1 := Hmod.out.mono (fun _ h => h.elim)
        have HR1 := Lib.hid (HR.out.mods Hmod.out (fun _ _ h => h))
        have Hd := Lib.hid (fun k hk => (Hown.out k hk).2)
        obtain ⟨a', c', he, hmax, hr⟩ := Hids.out.of (w' := w1) Hmod.out.size (fun k _ hlt => Hmod.out.block k hlt (fun h => h))
        cases he
        unfold maxLen at hmax
        have Hsrc := Lib.hid (fun W (h : IntsAt W (.slice a ids.length c) ids) => h.src)
        have Hids1 := Lib.hid (Hids.out.of (w' := w1) Hmod.out.size (fun k _ hlt => Hmod.out.block k hlt (fun h => h)))
        have Hblk := Lib.hid (fun k hk => (Hown.out k hk).1)
        have hws := Hmod.out.size
        clear Hids Hown Hsp Hct hM hl c0
        go_wp2
        go_loopw [30] (fun i wr => ∃ k : Nat, k ≤ ids.length ∧ i = .int .i64 k ∧ ORep wr o ((ids.take k).foldl Obs.into S) fp m blk bg ∧ Mods fp w1 wr)
          (fun i _ => ids.length - (intOf i).toNat)
        case atStart => exact ⟨0, Nat.zero_le _, rfl, HR1.out, Mods.refl _ _⟩
        case round =>
          rename_i wr
          obtain ⟨k, hkl, rfl, Rk, hmk⟩ := hrel
          have HMk := Lib.hid hmk
          have HRk := Lib.hid Rk
          by_cases hlt : k < ids.length
          · obtain ⟨b, off, rfl, hblt, hcell⟩ := hr (by omega)
            have hce : wr.cell? ⟨b, off + k, none⟩ = some (.int .i64 (nth ids k)) := by
              rw [hmk.cell (p := ⟨b, off + k, none⟩) hblt (Hd.out b rfl)]; exact hcell k hlt
            have Hst := Lib.hid (fold_take Obs.into S hlt)
            have hpres : (((ids.take k).foldl Obs.into S).at (nth ids k)).isSome = true := by
              rw [foldl_at into_at]; exact Hall.out _ (nth_mem hlt)
            generalize (ids.take k).foldl Obs.into S = Sk at *
            generalize nth ids k = id at *
            obtain ⟨y, hy⟩ := Option.isSome_iff_exists.1 hpres
            have Hi := Lib.hid (show Sk.into id = Sk.set id { y with refs := wrap64 (y.refs - 1), carried := wrap64 (y.carried + 1) } by simp [Obs.into, hy])
            have c0 : wr.cell? ⟨o, 0, none⟩ = some (.map (some m)) := (cell_of (o := 0) Rk.top).trans rfl
            have hM := Rk.map
            have hk2 := Rk.look id
            have hl := lookups m (Sk.all.map fun p => (p.1, ptr (blk p.1)))
            generalize (Sk.all.map fun p => (p.1, ptr (blk p.1))) = L2 at hM hk2 hl
            rw [hy] at hk2
            have hh := Rk.hdr _ (get_mem hy)
            have hx : fp (blk id) := Rk.fh _ (get_mem hy)
            simp only at hh
            have c2 : wr.cell? ⟨blk id, 2, none⟩ = some (.int .i64 y.refs) := (cell_of (o := 2) hh).trans rfl
            have c4 : wr.cell? ⟨blk id, 4, none⟩ = some (.int .i64 y.carried) := (cell_of (o := 4) hh).trans rfl
            have f2 : wr.frozen? ⟨blk id, 2, none⟩ = false := frozen_of hh
            have f4 : wr.frozen? ⟨blk id, 4, none⟩ = false := frozen_of hh
            have Hh := Lib.hid hh
            have Hy := Lib.hid hy
            clear hcell hr hmk Rk hpres hy hh hk
            go_wp2
            go_roundw
            case rel =>
              refine ⟨k + 1, by omega, by go_num, ?_, (HMk.out.setCell (.inl hx) _).setCell (.inl hx) _⟩
              rw [Hst.out, Hi.out]
              have e1 := hp_setCell_same wr (blk id) 2 (.int .i64 (wrap64 (y.refs - 1))) _ _ _ Hh.out
              exact HRk.out.set Hy.out (by simp) (fun k _ hk => (hp_setCell_ne _ _ _ _ hk).trans (hp_setCell_ne _ _ _ _ hk)) (hp_setCell_same _ _ _ _ _ _ _ e1) rfl
            case measure => simp [intOf]; omega
          · have Hk := Lib.hid (show ids.take k = ids from List.take_of_length_le (by omega))
            have hgf := fold_other (f := Obs.into) (fun S id x h => into_other S h) ids S holder Hin.out
            rw [Hg.out] at hgf
            rw [Hk.out] at Rk HRk
            have Hrow := Lib.hid (Rk.bag _ (get_mem hgf))
            have Hsrc1 := Lib.hid (Hsrc.out wr (Hids1.out.of hmk.size (fun k hk hlt => hmk.block k hlt (Hd.out k hk))))
            have hh := Rk.hdr _ (get_mem hgf)
            simp only at hh
            have c8 : wr.cell? ⟨blk holder, 8, none⟩ = some (bg holder) := (cell_of (o := 8) hh).trans rfl
            obtain ⟨i0, hi, hz0, hz1, hz2⟩ := info_parts infoInt
            have Hm := Lib.hid (show h.bag.length + ids.length ≤ maxLen by have := Hsz.out h Hg.out; unfold maxLen; omega)
            have Hb := Lib.hid (Hsz.out h Hg.out)
            have Hh := Lib.hid hh
            have Hgf := Lib.hid hgf
            clear hr hmk Rk hgf hh
            have Hne := Lib.hid (show some (blk holder) ≠ (bg holder).ownBlock from fun e => HRk.out.bag_ne (get_mem Hgf.out) (get_mem Hgf.out) e.symm rfl)
            have Hlt := Lib.hid (HRk.out.lt _ (HRk.out.fh _ (get_mem Hgf.out)))
            go_wp2_with (at_builtin; refine wpList_append_row (v := bg holder) rfl (.tmp 67) (.tmp 68) 47 rfl tInt i0 (.int .i64 0) 1 8 Tryd.underlying47 hi hz0 hz1 hz2 rfl (by decide) rfl Hrow.out rfl Hsrc1.out Hm.out Hb.out ?_; intro v' w5 hrow hgr hblk hz; have Hr5 := Lib.hid hrow; obtain ⟨a5, c5, rfl⟩ := hrow.shape; have Hg5 := Lib.hid hgr; have Hb5 := Lib.hid hblk; have Hh5 := Lib.hid ((hgr.block _ Hlt.out Hne.out).trans Hh.out); have c85 : w5.cell? ⟨blk holder, 8, none⟩ = some (bg holder) := (cell_of (o := 8) Hh5.out).trans rfl; have f85 := frozen_of (o := 8) Hh5.out; have c55 : w5.cell? ⟨blk holder, 5, none⟩ = some (i64 h.carries) := (cell_of (o := 5) Hh5.out).trans rfl; have f55 := frozen_of (o := 5) Hh5.out; clear hrow hgr hblk hz)
            go_ret
            have hbt : (ids.foldl Obs.into S).bagTo holder ((ids.foldl Obs.into S).bagOf holder ++ ids) = (ids.foldl Obs.into S).set holder { h with bag := h.bag ++ ids, carries := (h.bag.length : Int) + ids.length } := by
              simp [Obs.bagTo, Obs.bagOf, Hgf.out]
            have e1 := hp_setCell_same w5 (blk holder) 8 (.slice a5 (h.bag.length + ids.length) c5) _ _ _ Hh5.out
            have e2 := hp_setCell_same _ (blk holder) 5 (.int .i64 ((h.bag.length : Int) + ids.length)) _ _ _ e1
            have MM5 : Mods fp w w5 := (MM.trans HMk.out (fun _ h => .inl h)).grown Hg5.out (fun k hk => .inl (HRk.out.fb _ (get_mem Hgf.out) k hk))
            have hs5 : wr.heap.size ≤ w5.heap.size := Hg5.out.size
            have hsw : w.heap.size ≤ wr.heap.size := (MM.trans HMk.out (fun _ h => .inl h)).size
            have hxh : fp (blk holder) := HRk.out.fh _ (get_mem Hgf.out)
            rw [Hc.out, hbt]
            refine ⟨rfl, _, ⟨m, blk, _, HRk.out.rebag (h' := { h with bag := h.bag ++ ids, carries := (h.bag.length : Int) + ids.length }) (v := .slice a5 (h.bag.length + ids.length) c5) Hgf.out (by simpa using hs5) ?_ e2 ?_ ?_⟩, (MM5.setCell (.inl hxh) _).setCell (.inl hxh) _, ?_⟩
            · intro k hk h1 h2
              rw [hp_setCell_ne _ _ _ _ h1, hp_setCell_ne _ _ _ _ h1]
              exact Hg5.out.block k hk h2
            · have := Hr5.out
              rw [← List.map_append] at this
              refine (Row.of_block (by simpa using this) (fun k hk _ => ?_))
              have hne : k ≠ blk holder := by
                rintro rfl
                rcases Hb5.out with e | e
                · exact Hne.out (hk.symm.trans e)
                · have e' := hk.symm.trans e
                  have := Hlt.out
                  simp only [Option.some.injEq] at e'
                  omega
              rw [hp_setCell_ne _ _ _ _ hne, hp_setCell_ne _ _ _ _ hne]
            · intro k hk
              rcases Hb5.out with e | e
              · exact .inl (e.symm.trans hk)
              · right
                have := e.symm.trans hk
                simp only [Option.some.injEq] at this
                omega
            · rintro k (hk | hk)
              · exact .inl hk
              · rcases Hb5.out with e | e
                · exact .inl (HRk.out.fb _ (get_mem Hgf.out) k (e.symm.trans hk))
                · right
                  have := e.symm.trans hk
                  simp only [Option.some.injEq] at this
                  omega
    · have Hc := Lib.hid (show S.carry holder ids = (S, S.spare ids) by simp [Obs.carry, hg, hs])
      have hs' : (S.spare ids != 0) = true := by simpa using hs
      clear hg hs
      generalize S.spare ids = s at *
      go_enter Tryd.func10, Tryd.ntmps10
      go_wp2_with (first
        | (go_at_call 23; refine Hsp.out.mono ?_; rintro e w1 ⟨rfl, hmod⟩; have Hmod := Lib.hid hmod; clear hmod))
      go_ret
      rw [Hc.out]
      exact ⟨rfl, Upd.same ⟨_, _, _, HR.out.mods Hmod.out (fun _ _ h => h)⟩ (Hmod.out.mono (fun _ h => h.elim))⟩
end
end Go.Proofs.YtkifgoadbnpofaaDoor
