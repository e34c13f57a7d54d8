/- The walk of layer 18's Unref. -/
import Derived.Test.YtkifgoadbnpofaaDoorObjG
namespace Go.Proofs.YtkifgoadbnpofaaDoor
open Go Go.RowKit
set_option maxRecDepth 100000

theorem deref_at (S : Obs) (id x : Int) : ((S.deref id).at x).isSome = (S.at x).isSome := by
  unfold Obs.deref
  cases h : S.at id with
  | none => rfl
  | some y =>
    simp only [at_set]
    by_cases e : id = x
    · subst e; simp [h]
    · simp [e]
theorem deref_weight (S : Obs) (id : Int) : weight (S.deref id).all = weight S.all := by
  unfold Obs.deref
  cases h : S.at id with
  | none => rfl
  | some y => exact weight_set S h rfl
theorem fold_deref_weight (l : List Int) (S : Obs) : weight (l.foldl Obs.deref S).all = weight S.all := by
  induction l generalizing S with
  | nil => rfl
  | cons y l ih => rw [List.foldl_cons, ih, deref_weight]

section
variable {w : World} {o : Nat} {S : Obs} {fp : Nat → Prop} {m : Nat} {blk : Int → Nat} {bg : Int → Value}

set_option maxHeartbeats 2000000 in
theorem unref_calls (R : ORep w o S fp m blk bg) {v : Value} {ids : List Int} (hids : IntsAt w v ids) (hown : ∀ k, v.ownBlock = some k → k < w.heap.size ∧ ¬ fp k)
    (hsm : ids.length + weight S.all ≤ 1099511627776) :
    Calls Tryd.prog 11 #[ptr o, v] w (TellsPost2 w o (S.unref ids).1 fp m blk bg fp (S.unref ids).2.1 (S.unref ids).2.2) := by
  have HR := Lib.hid R
  have Hids := Lib.hid hids
  have Hown := Lib.hid hown
  have Hsp := Lib.hid (spare_calls R hids)
  clear hown R
  by_cases hs : S.spare ids = 0
  · have Hu := Lib.hid (show S.unref ids = (((ids.foldl Obs.deref S).sweep ids).1, ((ids.foldl Obs.deref S).sweep ids).2, 0) by simp [Obs.unref, hs])
    have Hall := Lib.hid (spare_zero hs)
    have Hfw := Lib.hid (fold_deref_weight ids S)
    rw [hs] at Hsp
    obtain ⟨a, c, rfl, _, _⟩ := hids
    clear hs
    go_enter Tryd.func11, Tryd.ntmps11
    go_wp2_with (go_at_call 23; refine Hsp.out.mono ?_; rintro e w1 ⟨rfl, hmod⟩; have Hmod := Lib.hid hmod; clear hmod)
    have MM : Mods fp w w1 := Hmod.out.mono (fun _ h => h.elim)
    have HR1 := Lib.hid (HR.out.mods Hmod.out (fun _ _ h => h))
    have Hids1 := Lib.hid (Hids.out.of (w' := w1) Hmod.out.size (fun k _ hlt => Hmod.out.block k hlt (fun h => h)))
    obtain ⟨a', c', he, hmax, hr⟩ := Hids1.out
    cases he
    unfold maxLen at hmax
    have Hd := Lib.hid (fun k hk => (Hown.out k hk).2)
    have Hblk := Lib.hid (fun k hk => (Hown.out k hk).1)
    have hws := Hmod.out.size
    clear Hids Hown Hsp
    go_loopw [17] (fun i wr => ∃ k : Nat, k ≤ ids.length ∧ i = .int .i64 k ∧ ORep wr o ((ids.take k).foldl Obs.deref S) fp m blk bg ∧ Mods fp w1 wr)
      (fun i _ => ids.length - (intOf i).toNat)
    case atStart => exact ⟨0, Nat.zero_le _, rfl, HR1.out, Mods.refl _ _⟩
    case round =>
      rename_i wr
      obtain ⟨k, hkl, rfl, Rk, hmk⟩ := hrel
      have HMk := Lib.hid hmk
      have HRk := Lib.hid Rk
      by_cases hlt : k < ids.length
      · obtain ⟨b, off, rfl, hblt, hcell⟩ := hr (by omega)
        have hce : wr.cell? ⟨b, off + k, none⟩ = some (.int .i64 (nth ids k)) := by
          rw [hmk.cell (p := ⟨b, off + k, none⟩) hblt (Hd.out b rfl)]; exact hcell k hlt
        have Hst := Lib.hid (fold_take Obs.deref S hlt)
        have hpres : (((ids.take k).foldl Obs.deref S).at (nth ids k)).isSome = true := by
          rw [foldl_at deref_at]; exact Hall.out _ (nth_mem hlt)
        generalize (ids.take k).foldl Obs.deref S = Sk at *
        generalize nth ids k = id at *
        obtain ⟨y, hy⟩ := Option.isSome_iff_exists.1 hpres
        have Hi := Lib.hid (show Sk.deref id = Sk.set id { y with refs := wrap64 (y.refs - 1) } by simp [Obs.deref, hy])
        have c0 : wr.cell? ⟨o, 0, none⟩ = some (.map (some m)) := (cell_of (o := 0) Rk.top).trans rfl
        have hM := Rk.map
        have hk2 := Rk.look id
        have hl := lookups m (Sk.all.map fun p => (p.1, ptr (blk p.1)))
        generalize (Sk.all.map fun p => (p.1, ptr (blk p.1))) = L2 at hM hk2 hl
        rw [hy] at hk2
        have hh := Rk.hdr _ (get_mem hy)
        have hx : fp (blk id) := Rk.fh _ (get_mem hy)
        simp only at hh
        have c2 : wr.cell? ⟨blk id, 2, none⟩ = some (.int .i64 y.refs) := (cell_of (o := 2) hh).trans rfl
        have f2 : wr.frozen? ⟨blk id, 2, none⟩ = false := frozen_of hh
        have Hh := Lib.hid hh
        have Hy := Lib.hid hy
        clear hcell hr hmk Rk hpres hy hh
        go_wp2
        go_roundw
        case rel =>
          refine ⟨k + 1, by omega, by go_num, ?_, HMk.out.setCell (.inl hx) _⟩
          rw [Hst.out, Hi.out]
          exact HRk.out.set Hy.out (by simp) (fun k _ hk => hp_setCell_ne _ _ _ _ hk) (hp_setCell_same _ _ _ _ _ _ _ Hh.out) rfl
        case measure => simp [intOf]; omega
      · have Hk := Lib.hid (show ids.take k = ids from List.take_of_length_le (by omega))
        rw [Hk.out] at Rk HRk
        have Hsw := Lib.hid (sweep_calls Rk (Hids1.out.of hmk.size (fun k hk hlt => hmk.block k hlt (Hd.out k hk))) (fun k hk => by have := Hblk.out k hk; have := hmk.size; omega) (by rw [Hfw.out]; exact hsm))
        clear hr hmk Rk
        go_wp2_with (go_at_call 25; refine Hsw.out.mono ?_; rintro e w2 ⟨v2, rfl, h1, h2, h3, h4⟩; have H1 := Lib.hid h1; have H2 := Lib.hid h2; have H3 := Lib.hid h3; have H4 := Lib.hid h4; clear h1 h2 h3 h4)
        go_ret2
        rw [Hu.out]
        have M2 := MM.trans HMk.out (fun _ h => .inl h)
        exact ⟨v2, rfl, H1.out, fun k hk => by have := H2.out k hk; have := M2.size; omega, H3.out, M2.trans H4.out (fun _ h => .inl h)⟩
  · have Hu := Lib.hid (show S.unref ids = (S, [], S.spare ids) by simp [Obs.unref, hs])
    have hs' : (S.spare ids != 0) = true := by simpa using hs
    clear hs
    generalize S.spare ids = s at *
    go_enter Tryd.func11, Tryd.ntmps11
    go_wp2_with (go_at_call 23; refine Hsp.out.mono ?_; rintro e w1 ⟨rfl, hmod⟩; have Hmod := Lib.hid hmod; clear hmod)
    go_ret2
    rw [Hu.out]
    exact ⟨_, rfl, Row.nil _ _ _, (fun k h => by cases h), HR.out.mods Hmod.out (fun _ _ h => h), Hmod.out.mono (fun _ h => h.elim)⟩
end
end Go.Proofs.YtkifgoadbnpofaaDoor
