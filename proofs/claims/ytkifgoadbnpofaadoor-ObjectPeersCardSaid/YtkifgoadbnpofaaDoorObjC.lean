/- Walks of layer 18: Pair, New, Info. -/
import Derived.Test.YtkifgoadbnpofaaDoorObjB
namespace Go.Proofs.YtkifgoadbnpofaaDoor
open Go Go.RowKit
set_option maxRecDepth 100000
section
variable {w : World} {o : Nat} {S : Obs} {fp : Nat → Prop} {m : Nat} {blk : Int → Nat} {bg : Int → Value}

set_option maxHeartbeats 1000000 in
theorem pair_calls (R : ORep w o S fp m blk bg) (a b : Int) :
    Calls Tryd.prog 13 #[ptr o, i64 a, i64 b] w (Stays w o (S.pair a b).1 fp m blk bg (i64 (S.pair a b).2)) := by
  have c0 : w.cell? ⟨o, 0, none⟩ = some (.map (some m)) := (cell_of (o := 0) R.top).trans rfl
  have hM := R.map
  have hka := R.look a
  have hkb := R.look b
  have hl := lookups m (S.all.map fun p => (p.1, ptr (blk p.1)))
  generalize (S.all.map fun p => (p.1, ptr (blk p.1))) = L at hM hka hkb hl
  have HR := Lib.hid R
  cases hga : S.at a with
  | none =>
    have Hp := Lib.hid (show S.pair a b = (S, -25) by simp [Obs.pair, hga])
    rw [hga] at hka
    clear hga hkb R
    go_enter Tryd.func13, Tryd.ntmps13
    go_wp2
    go_quiet (fail)
    go_wp2
    go_ret
    rw [Hp.out]
    exact ⟨rfl, HR.out.keep (by simp) (fun _ _ => rfl), (Mods.refl _ _).drewN _⟩
  | some x =>
    rw [hga] at hka
    cases hgb : S.at b with
    | none =>
      have Hp := Lib.hid (show S.pair a b = (S, -25) by simp [Obs.pair, hga, hgb])
      rw [hgb] at hkb
      clear hga hgb R
      go_enter Tryd.func13, Tryd.ntmps13
      go_wp2
      go_quiet (fail)
      go_wp2
      go_ret
      rw [Hp.out]
      exact ⟨rfl, HR.out.keep (by simp) (fun _ _ => rfl), (Mods.refl _ _).drewN _⟩
    | some y =>
      rw [hgb] at hkb
      by_cases hab : a = b
      · have Hp := Lib.hid (show S.pair a b = (S, -10) by simp [Obs.pair, hgb, hab])
        subst hab
        clear hga hgb R
        go_enter Tryd.func13, Tryd.ntmps13
        go_wp2
        go_quiet (fail)
        go_wp2
        go_ret
        rw [Hp.out]
        exact ⟨rfl, HR.out.keep (by simp) (fun _ _ => rfl), (Mods.refl _ _).drewN _⟩
      · have hhx := R.hdr _ (get_mem hga)
        have hhy := R.hdr _ (get_mem hgb)
        have hab' : (a == b) = false := by simpa using hab
        have hbl : blk a ≠ blk b := fun e => hab (R.inj _ (get_mem hga) _ (get_mem hgb) e)
        simp only at hhx hhy
        have cx7 : w.cell? ⟨blk a, 7, none⟩ = some (.bool x.paired) := (cell_of (o := 7) hhx).trans rfl
        have cy7 : w.cell? ⟨blk b, 7, none⟩ = some (.bool y.paired) := (cell_of (o := 7) hhy).trans rfl
        by_cases hpx : x.paired = true
        · have Hp := Lib.hid (show S.pair a b = (S, -20) by simp [Obs.pair, hga, hgb, hab, hpx])
          rw [hpx] at cx7
          clear hga hgb R hhx hhy cy7 hpx
          go_enter Tryd.func13, Tryd.ntmps13
          go_wp2
          go_quiet (fail)
          go_wp2
          go_ret
          rw [Hp.out]
          exact ⟨rfl, HR.out.keep (by simp) (fun _ _ => rfl), (Mods.refl _ _).drewN _⟩
        · have hpx : x.paired = false := by simpa using hpx
          by_cases hpy : y.paired = true
          · have Hp := Lib.hid (show S.pair a b = (S, -20) by simp [Obs.pair, hga, hgb, hab, hpy])
            rw [hpy] at cy7
            rw [hpx] at cx7
            clear hga hgb R hhx hhy hpx hpy
            go_enter Tryd.func13, Tryd.ntmps13
            go_wp2
            go_quiet (fail)
            go_wp2
            go_ret
            rw [Hp.out]
            exact ⟨rfl, HR.out.keep (by simp) (fun _ _ => rfl), (Mods.refl _ _).drewN _⟩
          · have hpy : y.paired = false := by simpa using hpy
            have Hp := Lib.hid (show S.pair a b = ((S.set a { x with peer := b, paired := true }).set b { y with peer := a, paired := true }, 0) by simp [Obs.pair, hga, hgb, hab, hpx, hpy])
            rw [hpy] at cy7
            rw [hpx] at cx7
            have cx1 : w.cell? ⟨blk a, 1, none⟩ = some (.int .i64 x.peer) := (cell_of (o := 1) hhx).trans rfl
            have cy1 : w.cell? ⟨blk b, 1, none⟩ = some (.int .i64 y.peer) := (cell_of (o := 1) hhy).trans rfl
            have fx1 : w.frozen? ⟨blk a, 1, none⟩ = false := frozen_of hhx
            have fy1 : w.frozen? ⟨blk b, 1, none⟩ = false := frozen_of hhy
            have fx7 : w.frozen? ⟨blk a, 7, none⟩ = false := frozen_of hhx
            have fy7 : w.frozen? ⟨blk b, 7, none⟩ = false := frozen_of hhy
            have hbl' := hbl.symm
            have Hga := Lib.hid hga
            have Hgb := Lib.hid hgb
            have Hx := Lib.hid hhx
            have Hy := Lib.hid hhy
            clear hga hgb R hhx hhy hpx hpy
            go_enter Tryd.func13, Tryd.ntmps13
            go_wp2
            go_quiet (fail)
            go_wp2
            go_ret
            rw [Hp.out]
            refine ⟨rfl, HR.out.set2 hab Hga.out Hgb.out (by simp) (fun k _ h1 h2 => ?_) ?_ ?_ rfl rfl,
              (((((Mods.refl _ _).drewN nq).setCell (.inl (HR.out.fh _ (get_mem Hga.out))) _).setCell (.inl (HR.out.fh _ (get_mem Hgb.out))) _).setCell (.inl (HR.out.fh _ (get_mem Hga.out))) _).setCell (.inl (HR.out.fh _ (get_mem Hgb.out))) _⟩
            · rw [hp_setCell_ne _ _ _ _ h2, hp_setCell_ne _ _ _ _ h1, hp_setCell_ne _ _ _ _ h2, hp_setCell_ne _ _ _ _ h1]; rfl
            · have w1 := hp_setCell_same (w.drewN nq) (blk a) 1 (i64 b) _ _ _ Hx.out
              have w2 := (hp_setCell_ne ((w.drewN nq).setCell ⟨blk a, 1, none⟩ (i64 b)) ⟨blk b, 1, none⟩ (i64 a) _ hbl).trans w1
              have w3 := hp_setCell_same _ (blk a) 7 (.bool true) _ _ _ w2
              exact (hp_setCell_ne _ ⟨blk b, 7, none⟩ _ _ hbl).trans w3
            · have v0 := (hp_setCell_ne (w.drewN nq) ⟨blk a, 1, none⟩ (i64 b) _ hbl').trans Hy.out
              have v1 := hp_setCell_same _ (blk b) 1 (i64 a) _ _ _ v0
              have v2 := (hp_setCell_ne _ ⟨blk a, 7, none⟩ (.bool true) _ hbl').trans v1
              exact hp_setCell_same _ (blk b) 7 (.bool true) _ _ _ v2

def infoCells (h : Hdr) : Array Value := #[i64 h.kind, i64 h.peer, i64 h.refs, i64 h.pins, i64 h.carried, i64 h.carries, i64 h.shows]
def InfoPost (w : World) (S : Obs) (id : Int) (e : Ending) (w' : World) : Prop :=
  e = .returned (.tuple #[.agg (infoCells ((S.at id).getD {})), .bool (S.at id).isSome]) ∧ Mods (fun _ => False) w w'

set_option maxHeartbeats 1000000 in
theorem info_calls (R : ORep w o S fp m blk bg) (id : Int) : Calls Tryd.prog 15 #[ptr o, i64 id] w (InfoPost w S id) := by
  have c0 : w.cell? ⟨o, 0, none⟩ = some (.map (some m)) := (cell_of (o := 0) R.top).trans rfl
  have holt := hp_lt R.top
  have hM := R.map
  have hmlt := hM.lt
  have hk := R.look id
  have hl := lookups m (S.all.map fun p => (p.1, ptr (blk p.1)))
  generalize (S.all.map fun p => (p.1, ptr (blk p.1))) = L at hM hk hl
  cases hg : S.at id with
  | none =>
    have Hp := Lib.hid (show InfoPost w S id = fun e w' => e = .returned (.tuple #[.agg #[i64 0, i64 0, i64 0, i64 0, i64 0, i64 0, i64 0], .bool false]) ∧ Mods (fun _ => False) w w' by
      funext e w'; simp [InfoPost, hg, infoCells])
    rw [hg] at hk
    clear hg
    go_enter Tryd.func15, Tryd.ntmps15
    go_wp2
    rw [Hp.out]
    exact bodyPost_ret (v := .tuple #[.agg #[i64 0, i64 0, i64 0, i64 0, i64 0, i64 0, i64 0], .bool false]) (by simp [results, Tryd.results15, go_sem]) rfl ⟨rfl, (Mods.refl _ _).alloc _⟩
  | some h =>
    have Hp := Lib.hid (show InfoPost w S id = fun e w' => e = .returned (.tuple #[.agg (infoCells h), .bool true]) ∧ Mods (fun _ => False) w w' by
      funext e w'; simp [InfoPost, hg])
    rw [hg] at hk
    have hh := R.hdr _ (get_mem hg)
    have hx := R.lt _ (R.fh _ (get_mem hg))
    simp only at hh hx
    have c0 : w.cell? ⟨blk id, 0, none⟩ = some (.int .i64 h.kind) := (cell_of (o := 0) hh).trans rfl
    have c1 : w.cell? ⟨blk id, 1, none⟩ = some (.int .i64 h.peer) := (cell_of (o := 1) hh).trans rfl
    have c2 : w.cell? ⟨blk id, 2, none⟩ = some (.int .i64 h.refs) := (cell_of (o := 2) hh).trans rfl
    have c3 : w.cell? ⟨blk id, 3, none⟩ = some (.int .i64 h.pins) := (cell_of (o := 3) hh).trans rfl
    have c4 : w.cell? ⟨blk id, 4, none⟩ = some (.int .i64 h.carried) := (cell_of (o := 4) hh).trans rfl
    have c5 : w.cell? ⟨blk id, 5, none⟩ = some (.int .i64 h.carries) := (cell_of (o := 5) hh).trans rfl
    have c6 : w.cell? ⟨blk id, 6, none⟩ = some (.int .i64 h.shows) := (cell_of (o := 6) hh).trans rfl
    clear hg hh R
    go_enter Tryd.func15, Tryd.ntmps15
    go_wp2
    rw [Hp.out]
    exact bodyPost_ret (v := .tuple #[.agg (infoCells h), .bool true]) (by simp [results, Tryd.results15, go_sem, infoCells]) rfl ⟨rfl, (Mods.refl _ _).alloc _⟩

def NewPost (w : World) (most : Int) (e : Ending) (w' : World) : Prop :=
  ∃ o fp, e = .returned (ptr o) ∧ OR o { most := most } w' fp ∧ (∀ k, fp k → w.heap.size ≤ k) ∧ Mods (fun _ => False) w w'
set_option maxHeartbeats 1000000 in
theorem new_calls {w : World} (most : Int) (h0 : 0 ≤ most) (h1 : most ≤ 65536) : Calls Tryd.prog 6 #[i64 most] w (NewPost w most) := by
  go_enter Tryd.func6, Tryd.ntmps6
  go_wp2
  go_ret
  refine ⟨w.heap.size + 1, fun k => k = w.heap.size ∨ k = w.heap.size + 1, rfl, ⟨w.heap.size, fun _ => 0, fun _ => .slice none 0 0, ?_⟩, ?_, ((Mods.refl _ _).alloc _).alloc _⟩
  · refine ⟨?_, ?_, by simp, by simp, by simp, by simp, by simp, .inr rfl, .inl rfl, by simp, by simp, ?_⟩
    · have := hp_alloc_new (w.alloc (.map #[] 0)) (.cells #[.map (some w.heap.size), .int .i64 0, .int .i64 most] 58)
      simp only [World.size_alloc] at this
      exact this
    · exact (MapAt_alloc (by simp)).2 (MapAt.new w)
    · rintro k (rfl | rfl) <;> simp <;> omega
  · rintro k (rfl | rfl) <;> omega
end
end Go.Proofs.YtkifgoadbnpofaaDoor
