/- Walks of layer 8: touched, base, reach. -/
import Derived.Test.YtkifgoadbnpofaaVmoA
import Derived.Deep.LoopGhost
namespace Go.Proofs.Ytkifgoadbnpofaa
open Go Go.RowKit
set_option maxRecDepth 100000

theorem infoInt : (Try.prog.info? tInt).map (fun i => (i.zero, i.size, i.bytes)) = some (some (.int .i64 0), 1, 8) := by kernel_rfl
/-- A new slice of int. -/
def NewInts (w : World) (l : List Int) (v : Value) (w' : World) : Prop := Row w' tInt 1 v l.length (l.map i64) ∧ (∀ k, v.ownBlock = some k → w.heap.size ≤ k) ∧ Mods (fun _ => False) w w'
def IntsPost (w : World) (l : List Int) (e : Ending) (w' : World) : Prop := ∃ v, e = .returned v ∧ NewInts w l v w'

/-- One number more. -/
theorem NewInts.more {w wr w' : World} {l : List Int} {v v' : Value} {c : Int} (h : NewInts w l v wr) (hrow : Row w' tInt 1 v' (l.length + 1) (l.map i64 ++ [i64 c]))
    (hgr : (wr.alloc (.cells #[i64 c] tInt)).grownBy w' v.ownBlock) (hown : v'.ownBlock = v.ownBlock ∨ v'.ownBlock = some (wr.alloc (.cells #[i64 c] tInt)).heap.size) : NewInts w (l ++ [c]) v' w' := by
  obtain ⟨hr, hf, hm⟩ := h
  refine ⟨by simpa using hrow, fun k hk => ?_, (hm.alloc _).grown hgr (fun k hk => .inr (hf k hk))⟩
  rcases hown with e | e
  · exact hf k (by rw [← e]; exact hk)
  · rw [hk] at e; cases e
    have := hm.size
    simp; omega

section
variable {w : World} {Y : Lay} {S : Vset} {pv : Value} {pf : Nat → Prop}

set_option maxHeartbeats 1000000 in
theorem touched_calls (a n : Int) (h0 : 0 ≤ a) (h1 : a ≤ 1099511627776) (h2 : 0 ≤ n) (h3 : n ≤ 1099511627776) : Calls Try.prog 43 #[i64 a, i64 n] w (IntsPost w (touched a n)) := by
  obtain ⟨i0, hi, hz0, hz1, hz2⟩ := info_parts infoInt
  have HP := Lib.hid (pages_calls (w := w) a n h0 (by omega) h2 (by omega))
  have hn0 : 0 ≤ npages a n := by unfold npages; split <;> omega
  have hn1 : npages a n ≤ 34359738369 := by unfold npages; split <;> omega
  have hf0 : 0 ≤ a / 64 := by omega
  have hf1 : a / 64 ≤ 1099511627776 := by omega
  have HT := Lib.hid (show touched a n = (List.range (npages a n).toNat).map fun (k : Nat) => a / 64 + (k : Int) from rfl)
  obtain ⟨N, hN⟩ : ∃ N : Nat, npages a n = N := ⟨(npages a n).toNat, by omega⟩
  rw [hN] at HP HT hn1
  rw [Int.toNat_natCast] at HT
  clear hn0 hN h0 h1 h2 h3
  generalize a / 64 = f at *
  have HL := Lib.hid (fun (k : Nat) => (show ((List.range k).map fun (j : Nat) => f + (j : Int)) ++ [f + (k : Int)] = (List.range (k + 1)).map fun (j : Nat) => f + (j : Int) by simp [List.range_succ]))
  have HLen := Lib.hid (fun (k : Nat) => (show ((List.range k).map fun (j : Nat) => f + (j : Int)).length = k by simp))
  generalize hG : (fun (k : Nat) => (List.range k).map fun (j : Nat) => f + (j : Int)) = G at *
  have HG : ∀ k, (List.range k).map (fun (j : Nat) => f + (j : Int)) = G k := fun k => by rw [← hG]
  simp only [HG] at HL HLen HT
  clear hG HG
  go_enter Try.func43, Try.ntmps43
  go_wp2_with (go_at_call 69; refine HP.out.mono ?_; rintro e w' ⟨rfl, rfl⟩)
  go_loopg [8, 18] N (fun g v8 i wr => ∃ k : Nat, k ≤ N ∧ i = .int .i64 k ∧ N - k = g ∧ NewInts w (G k) v8 wr)
  case atStart =>
    refine ⟨0, by omega, rfl, rfl, ?_⟩
    have : G 0 = [] := List.eq_nil_of_length_eq_zero (HLen.out 0)
    rw [this]
    exact ⟨Row.nil _ _ _, (fun k h => by cases h), Mods.refl _ _⟩
  case round =>
    obtain ⟨k, hkl, rfl, rfl, hNI⟩ := hrel
    have HNI := Lib.hid hNI
    clear hNI
    by_cases hlt : k < N
    · have Hrow := Lib.hid (show Row (wr.alloc (.cells #[i64 (f + k)] tInt)) tInt 1 u8 (G k).length ((G k).map i64) from HNI.out.1.of_block (fun j _ hj => hp_alloc_old _ _ _ hj))
      have Hsrc := Lib.hid (Src.fresh wr 1 1 1 [i64 (f + k)] tInt rfl (by simp [i64, Value.oneCell']))
      have Hm := Lib.hid (show (G k).length + 1 ≤ maxLen by rw [HLen.out]; unfold maxLen; omega)
      have Hb := Lib.hid (show ((G k).length + 1) * 8 ≤ 140737488355328 by rw [HLen.out]; omega)
      go_wp2_with (at_builtin; refine wpList_append_row (v := u8) rfl (.tmp 21) (.tmp 25) 46 rfl tInt i0 (.int .i64 0) 1 8 Try.underlying46 hi hz0 hz1 hz2 rfl (by decide) rfl Hrow.out rfl Hsrc.out Hm.out Hb.out ?_; intro v9 w9 hrow hgr hblk hz; have HN9 := Lib.hid (HNI.out.more hrow hgr hblk); clear hrow hgr hblk hz)
      go_roundg (N - (k + 1))
      case measure => omega
      case rel => exact ⟨k + 1, by omega, by go_num, rfl, by rw [← HL.out k]; exact HN9.out⟩
    · have hkN : k = N := by omega
      have HkN := Lib.hid hkN
      clear hkN
      go_wp2
      go_ret
      refine ⟨u8, rfl, ?_⟩
      rw [HT.out, ← HkN.out]
      exact HNI.out

/-- From id on n steps at most lead to an object with pages; where each window begins is small. -/
def BaseOk (S : Vset) : Nat → Int → Prop
  | 0, id => ∃ o, S.at_ id = some o ∧ o.slice = false
  | n + 1, id => ∃ o, S.at_ id = some o ∧ (o.slice = true → 0 ≤ o.from_ ∧ o.from_ ≤ 8589934592 ∧ BaseOk S n o.parent)
theorem BaseOk.some {n : Nat} {id : Int} (h : BaseOk S n id) : ∃ o, S.at_ id = some o := by
  cases n with
  | zero => obtain ⟨o, h, _⟩ := h; exact ⟨o, h⟩
  | succ n => obtain ⟨o, h, _⟩ := h; exact ⟨o, h⟩

theorem base_bounds : ∀ {n : Nat} {id fr : Int}, BaseOk S n id → 0 ≤ fr → 0 ≤ (S.base n id fr).2 ∧ (S.base n id fr).2 ≤ fr + (n : Int) * 8589934592
  | 0, id, fr, _, h => by simp [Vset.base]; exact h
  | n + 1, id, fr, ⟨o, hg, hs⟩, h => by
    unfold Vset.base
    rw [hg]
    simp only
    split
    · rename_i hsl
      obtain ⟨q0, q1, hB⟩ := hs hsl
      obtain ⟨r0, r1⟩ := base_bounds hB (fr := fr + o.from_) (by omega)
      exact ⟨r0, by push_cast; omega⟩
    · exact ⟨h, by push_cast; omega⟩
set_option maxHeartbeats 1000000 in
theorem vbase_calls (R : VRep w Y S pv pf) {id : Int} (hB : BaseOk S Vset.fuel id) :
    Calls Try.prog 65 #[ptr Y.s, ptr (Y.blk id)] w fun e w' => e = .returned (.tuple #[ptr (Y.blk (S.base Vset.fuel id 0).1), i64 (S.base Vset.fuel id 0).2]) ∧ ∃ n, w' = w.drewN n := by
  have c1 : w.cell? ⟨Y.s, 1, none⟩ = some (.map (some Y.m)) := (cell_of (o := 1) R.top).trans rfl
  have hM := R.map
  have Hk := Lib.hid R.look
  have hl := lookupsO Y.m (obs S Y)
  generalize obs S Y = L at hM Hk hl
  have HR := Lib.hid R
  have HB := Lib.hid hB
  clear R hB
  go_enter Try.func65, Try.ntmps65
  go_wp2
  go_loopg [1, 6] Vset.fuel (fun g' v1 v6 wr => ∃ (g : Nat) (id' : Int) (fr : Int), g = g' ∧ v1 = ptr (Y.blk id') ∧ v6 = .int .i64 fr ∧ BaseOk S g id' ∧ g ≤ Vset.fuel ∧ S.base g id' fr = S.base Vset.fuel id 0 ∧ 0 ≤ fr ∧ fr ≤ (Vset.fuel - g : Nat) * 8589934592 ∧ ∃ j, wr = w.drewN j)
  case atStart => exact ⟨_, id, 0, rfl, rfl, rfl, HB.out, Nat.le_refl _, rfl, by omega, by simp, 0, rfl⟩
  case round =>
    obtain ⟨g, id', fr, rfl, rfl, rfl, hBk, hgf, hbase, hfr0, hfr1, j, rfl⟩ := hrel
    have Hbase := Lib.hid hbase
    obtain ⟨o, hg⟩ := hBk.some
    have hh := HR.out.hdr _ (get_mem hg)
    have hfr2 : fr ≤ 171798691840 := by unfold Vset.fuel at hfr1; omega
    have c4 : w.cell? ⟨Y.blk id', 4, none⟩ = some (.bool o.slice) := (cell_of (o := 4) hh).trans rfl
    have c5 : w.cell? ⟨Y.blk id', 5, none⟩ = some (i64 o.from_) := (cell_of (o := 5) hh).trans rfl
    have cp : w.cell? ⟨Y.blk id', 1, none⟩ = some (i64 o.parent) := (cell_of (o := 1) hh).trans rfl
    cases hs : o.slice with
    | false =>
      rw [hs] at c4
      have He := Lib.hid (show S.base Vset.fuel id 0 = (id', fr) by
        rw [← hbase]
        cases g with
        | zero => rfl
        | succ g => simp [Vset.base, hg, hs])
      clear hbase hBk hg hh hs hfr1
      go_wp2
      go_ret2
      rw [He.out]
      exact ⟨rfl, j, rfl⟩
    | true =>
      rw [hs] at c4
      cases g with
      | zero =>
        obtain ⟨o', h1, h2⟩ := hBk
        rw [hg] at h1; cases h1; rw [hs] at h2; cases h2
      | succ g =>
        obtain ⟨o', h1, h2⟩ := hBk
        rw [hg] at h1; cases h1
        obtain ⟨q0, q1, hB'⟩ := h2 hs
        have HB' := Lib.hid hB'
        obtain ⟨up, hup⟩ := hB'.some
        have hk := Hk.out o.parent
        rw [hup] at hk
        have He := Lib.hid (show S.base g o.parent (fr + o.from_) = S.base Vset.fuel id 0 by
          rw [← hbase]; simp [Vset.base, hg, hs])
        have Hle := Lib.hid (show fr + o.from_ ≤ ((Vset.fuel - g : Nat) : Int) * 8589934592 by
          have : Vset.fuel - g = (Vset.fuel - (g + 1)) + 1 := by omega
          rw [this]; push_cast; omega)
        clear hbase hg hh hs hB' hup h2 hfr1
        generalize o.from_ = q at *
        generalize o.parent = pa at *
        go_wp2
        go_quiet (fail)
        go_wp2
        go_roundg g
        case measure => omega
        case rel => exact ⟨g, pa, fr + q, rfl, rfl, by go_num, HB'.out, by omega, He.out, by omega, Hle.out, j + nq, by simp [World.drewN, Nat.add_assoc]⟩

theorem vreach_facts {id : Int} {o : Vobj} (h : S.find id = some o) : S.at_ id = some o ∧ o.dropped = false := by
  unfold Vset.find at h
  cases hg : S.at_ id with
  | none => rw [hg] at h; cases h
  | some o' =>
    rw [hg] at h
    simp only [Option.bind_some] at h
    split at h
    · cases h
    · cases h; rename_i hd; exact ⟨rfl, by simpa using hd⟩
def Vset.reachPtr (S : Vset) (Y : Lay) (id a n : Int) : Value := if (S.reach id a n).2.2 = 0 then Go.Proofs.Ytkifgoadbnpofaa.ptr (Y.blk (S.reach id a n).1) else .pointer none
set_option maxHeartbeats 1000000 in
theorem vreach_calls (R : VRep w Y S pv pf) {id : Int} (a n : Int) (hok : ∀ o, S.find id = some o → 0 ≤ o.size ∧ o.size ≤ 8589934592 ∧ BaseOk S Vset.fuel id) :
    Calls Try.prog 41 #[ptr Y.s, i64 id, i64 a, i64 n] w fun e w' => e = .returned (.tuple #[S.reachPtr Y id a n, i64 (S.reach id a n).2.1, i64 (S.reach id a n).2.2]) ∧ ∃ k, w' = w.drewN k := by
  have HF := Lib.hid (vfind_calls R id)
  cases h : S.find id with
  | none =>
    have H := Lib.hid (show S.reach id a n = (0, 0, -25) by simp [Vset.reach, h])
    have H2 := Lib.hid (show S.reachPtr Y id a n = .pointer none by simp [Vset.reachPtr, Vset.reach, h])
    rw [show S.ptr Y id = .pointer none by simp [Vset.ptr, h]] at HF
    clear h R hok
    go_enter Try.func41, Try.ntmps41
    go_wp2_with (go_at_call 40; refine HF.out.mono ?_; rintro e w' ⟨rfl, rfl⟩)
    go_ret3
    rw [H.out, H2.out]; exact ⟨rfl, 0, rfl⟩
  | some o =>
    obtain ⟨hat, _⟩ := vreach_facts h
    obtain ⟨hs0, hs1, hB⟩ := hok o h
    have hh := R.hdr _ (get_mem hat)
    have c0 : w.cell? ⟨Y.blk id, 0, none⟩ = some (i64 o.size) := (cell_of (o := 0) hh).trans rfl
    have HW := Lib.hid (within_calls (w := w) a n o.size hs0 (by omega))
    rw [show S.ptr Y id = ptr (Y.blk id) by simp [Vset.ptr, h]] at HF
    cases hin : inside a n o.size with
    | false =>
      have H := Lib.hid (show S.reach id a n = (0, 0, -14) by simp [Vset.reach, h, hin])
      have H2 := Lib.hid (show S.reachPtr Y id a n = .pointer none by simp [Vset.reachPtr, Vset.reach, h, hin])
      rw [hin] at HW
      clear h R hok hat hh hin hB
      generalize o.size = sz at *
      go_enter Try.func41, Try.ntmps41
      go_wp2_with (first
        | (go_at_call 40; refine HF.out.mono ?_; rintro e w' ⟨rfl, rfl⟩)
        | (go_at_call 52; refine HW.out.mono ?_; rintro e w' ⟨rfl, rfl⟩))
      go_ret3
      rw [H.out, H2.out]; exact ⟨rfl, 0, rfl⟩
    | true =>
      have H := Lib.hid (show S.reach id a n = ((S.base Vset.fuel id 0).1, (S.base Vset.fuel id 0).2 + a, 0) by simp [Vset.reach, h, hin])
      have H2 := Lib.hid (show S.reachPtr Y id a n = ptr (Y.blk (S.base Vset.fuel id 0).1) by simp [Vset.reachPtr, Vset.reach, h, hin])
      have HBc := Lib.hid (vbase_calls R hB)
      have hin' := hin
      simp only [inside, decide_eq_true_eq] at hin'
      obtain ⟨q1, q2, q3, q4⟩ := hin'
      obtain ⟨hb0, hb1⟩ := base_bounds hB (fr := 0) (by omega)
      have hb2 : (S.base Vset.fuel id 0).2 ≤ 171798691840 := by unfold Vset.fuel at hb1 ⊢; omega
      rw [hin] at HW
      clear h R hok hat hh hin hB hb1
      generalize o.size = sz at *
      generalize S.base Vset.fuel id 0 = B at *
      obtain ⟨bi, bf⟩ := B
      simp only at hb0 hb2
      go_enter Try.func41, Try.ntmps41
      go_wp2_with (first
        | (go_at_call 40; refine HF.out.mono ?_; rintro e w' ⟨rfl, rfl⟩)
        | (go_at_call 52; refine HW.out.mono ?_; rintro e w' ⟨rfl, rfl⟩)
        | (go_at_call 65; refine HBc.out.mono ?_; rintro e w' ⟨rfl, k, rfl⟩))
      go_ret3
      rw [H.out, H2.out]; exact ⟨rfl, k, rfl⟩
end
end Go.Proofs.Ytkifgoadbnpofaa
