/- Walks of layer 18: Show, Make, Pair, New, Info. -/
import Derived.Test.YtkifgoadbnpofaaDoorObjA
import Derived.Deep.RegionHeld3
namespace Go.Proofs.YtkifgoadbnpofaaDoor
open Go Go.RowKit
set_option maxRecDepth 100000
section
variable {w : World} {o : Nat} {S : Obs} {fp : Nat → Prop} {m : Nat} {blk : Int → Nat} {bg : Int → Value}

set_option maxHeartbeats 400000 in
theorem Show_calls (R : ORep w o S fp m blk bg) {id : Int} {h : Hdr} (hg : S.at id = some h) (clr st : Int) :
    Calls Tryd.prog 14 #[ptr o, i64 id, i64 clr, i64 st] w (TellsPost2 w o (S.show id clr st).1 fp m blk bg (fun k => k = blk id) (S.show id clr st).2 0) := by
  have c0 : w.cell? ⟨o, 0, none⟩ = some (.map (some m)) := (cell_of (o := 0) R.top).trans rfl
  have hM := R.map
  have hk := R.look id
  have hl := lookups m (S.all.map fun p => (p.1, ptr (blk p.1)))
  generalize (S.all.map fun p => (p.1, ptr (blk p.1))) = L at hM hk hl
  rw [hg] at hk
  have H := Lib.hid (show_calls R hg clr st)
  clear hg
  go_enter Tryd.func14, Tryd.ntmps14
  go_wp2_with (go_at_call 26; refine H.out.mono ?_; rintro e w' ⟨v, rfl, hT⟩)
  go_ret2
  exact ⟨v, rfl, hT⟩

def MakePost (w : World) (o : Nat) (S : Obs) (fp : Nat → Prop) (kind : Int) (e : Ending) (w' : World) : Prop :=
  e = .returned (.tuple #[i64 (S.make kind).2.1, i64 (S.make kind).2.2]) ∧ Upd (OR o (S.make kind).1) fp w w'

theorem Upd.same {I : World → (Nat → Prop) → Prop} {fp : Nat → Prop} {w w' : World} (h : I w' fp) (M : Mods fp w w') : Upd I fp w w' := ⟨fp, h, M, fun _ h => .inl h⟩

set_option maxHeartbeats 1000000 in
theorem make_calls (hN : Named w) (R : ORep w o S fp m blk bg) (hnew : S.at (wrap64 (S.last + 1)) = none) (kind : Int) :
    Calls Tryd.prog 8 #[ptr o, i64 kind] w (MakePost w o S fp kind) := by
  have c0 : w.cell? ⟨o, 0, none⟩ = some (.map (some m)) := (cell_of (o := 0) R.top).trans rfl
  have c1 : w.cell? ⟨o, 1, none⟩ = some (.int .i64 S.last) := (cell_of (o := 1) R.top).trans rfl
  have c2 : w.cell? ⟨o, 2, none⟩ = some (.int .i64 S.most) := (cell_of (o := 2) R.top).trans rfl
  have f1 : w.frozen? ⟨o, 1, none⟩ = false := frozen_of R.top
  have hM := R.map
  have HR := Lib.hid R
  have hmlt := hM.lt
  have holt := hp_lt R.top
  have hlen := lens m (S.all.map fun p => (p.1, ptr (blk p.1)))
  have Hl := Lib.hid (show (S.all.map fun p => (p.1, ptr (blk p.1))).length = S.all.length by simp)
  have hu := updates m (S.all.map fun p => (p.1, ptr (blk p.1)))
  have Hn := Lib.hid (name_calls hN kind)
  have Hm := Lib.hid (show (S.make kind) = (if kind < 1 ∨ 11 < kind then (S, 0, -10) else if S.most ≤ S.all.length then (S, 0, -4)
    else ({ S with last := wrap64 (S.last + 1) }.set (wrap64 (S.last + 1)) (newHdr kind), wrap64 (S.last + 1), 0)) from rfl)
  generalize hL : (S.all.map fun p => (p.1, ptr (blk p.1))) = L at hM hlen Hl hu
  have HL := Lib.hid hL
  have Hnew := Lib.hid hnew
  clear hL hnew hN R
  cases hk : noKind kind with
  | true =>
    have Hk := Lib.hid (show kind < 1 ∨ 11 < kind by simpa [noKind] using hk)
    go_enter Tryd.func8, Tryd.ntmps8
    go_wp2_with (go_at_call 21; refine Hn.out.mono ?_; rintro e w' ⟨s, rfl, hs, rfl⟩; rw [hk] at hs)
    go_ret2
    unfold MakePost
    rw [Hm.out, if_pos Hk.out]
    exact ⟨rfl, Upd.same ⟨_, _, _, HR.out⟩ (Mods.refl _ _)⟩
  | false =>
    have Hk := Lib.hid (show ¬ (kind < 1 ∨ 11 < kind) by simpa [noKind] using hk)
    by_cases hc : S.most ≤ S.all.length
    · have hc' : S.most ≤ (L.length : Int) := by rw [Hl.out]; exact hc
      have Hc := Lib.hid hc
      clear hc
      go_enter Tryd.func8, Tryd.ntmps8
      go_wp2_with (go_at_call 21; refine Hn.out.mono ?_; rintro e w' ⟨s, rfl, hs, rfl⟩; rw [hk] at hs)
      go_quiet (fail)
      go_wp2
      go_ret2
      unfold MakePost
      rw [Hm.out, if_neg Hk.out, if_pos Hc.out]
      exact ⟨rfl, Upd.same ⟨_, _, _, HR.out.keep (by simp) (fun _ _ => rfl)⟩ ((Mods.refl _ _).drewN _)⟩
    · have hc' : decide (S.most ≤ (L.length : Int)) = false := by rw [Hl.out]; simpa using hc
      have Hc := Lib.hid hc
      clear hc
      go_enter Tryd.func8, Tryd.ntmps8
      go_wp2_with (go_at_call 21; refine Hn.out.mono ?_; rintro e w' ⟨s, rfl, hs, rfl⟩; rw [hk] at hs)
      go_quiet (fail)
      go_wp2
      have g0 : ((w.drewN nq).setCell ⟨o, 1, none⟩ (.int .i64 (wrap64 (S.last + 1)))).cell? ⟨o, 0, none⟩ = some (.map (some m)) := by
        rw [World.cell?_setCell_other _ _ _ _ (by simp)]; exact c0
      have g1 : ((w.drewN nq).setCell ⟨o, 1, none⟩ (.int .i64 (wrap64 (S.last + 1)))).cell? ⟨o, 1, none⟩ = some (.int .i64 (wrap64 (S.last + 1))) := World.cell?_setCell_same _ _ _ (u := .int .i64 S.last) c1
      have gM : MapAt ((w.drewN nq).setCell ⟨o, 1, none⟩ (.int .i64 (wrap64 (S.last + 1)))) m L := MapAt_setCell.2 (MapAt_drewN.2 hM)
      have Ho := Lib.hid (hp_setCell_same (w.drewN nq) o 1 (.int .i64 (wrap64 (S.last + 1))) _ _ _ HR.out.top)
      have Hk' := Lib.hid (fun k (hk : k ≠ o) => hp_setCell_ne (w.drewN nq) ⟨o, 1, none⟩ (.int .i64 (wrap64 (S.last + 1))) k hk)
      have MM := ((Mods.refl fp w).drewN nq).setCell (p := ⟨o, 1, none⟩) (.inl HR.out.fo) (.int .i64 (wrap64 (S.last + 1)))
      have hsz : ((w.drewN nq).setCell ⟨o, 1, none⟩ (.int .i64 (wrap64 (S.last + 1)))).heap.size = w.heap.size := by simp
      generalize (w.drewN nq).setCell ⟨o, 1, none⟩ (.int .i64 (wrap64 (S.last + 1))) = W at *
      have hmW : m < W.heap.size := by omega
      go_region_held3 (fun w' => w'.cell? ⟨o, 0, none⟩ = some (.map (some m)) ∧ w'.cell? ⟨o, 1, none⟩ = some (.int .i64 (wrap64 (S.last + 1)))) (go_keep)
        ((go_at_call 22; refine (first_calls _).mono ?_; rintro e w' ⟨rfl, rfl⟩))
      rename_i hHeld
      clear hHeld
      go_wp2
      go_ret2
      unfold MakePost
      rw [Hm.out, if_neg Hk.out, if_neg (by have := Hc.out; omega)]
      have R := HR.out
      have hmo : o ≠ m := R.om_ne
      refine ⟨rfl, _, ⟨m, _, _, R.add (id := wrap64 (S.last + 1)) (h := newHdr kind) (b := w.heap.size) Hnew.out rfl (Nat.le_refl _) (by simp; omega) ?_ ?_ ?_ ?_⟩,
        (((MM.alloc _).drew).mPut (.inl R.fm) _ _), ?_⟩
      · intro k hk h1 h2
        rw [mapPut_ne _ _ _ _ _ h2]
        show (W.alloc _).heap[k]? = _
        rw [hp_alloc_old _ _ _ (by omega), Hk'.out k h1]; rfl
      · rw [mapPut_ne _ _ _ _ _ hmo]
        show (W.alloc _).heap[o]? = _
        rw [hp_alloc_old _ _ _ (by omega), Ho.out]; rfl
      · rw [HL.out]
        exact (MapAt_drew.2 ((MapAt_alloc hmW).2 gM)).put _ _
      · rw [mapPut_ne _ _ _ _ _ (by omega)]
        show (W.alloc _).heap[w.heap.size]? = _
        rw [← hsz, hp_alloc_new]; rfl
      · rintro k (hk | rfl)
        · exact .inl hk
        · exact .inr (Nat.le_refl _)
end
end Go.Proofs.YtkifgoadbnpofaaDoor
