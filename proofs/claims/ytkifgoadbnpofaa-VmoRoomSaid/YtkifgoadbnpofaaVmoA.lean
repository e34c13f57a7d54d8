/- Walks of layer 8: size, New, Count, Room, find, touched. -/
import Derived.Test.YtkifgoadbnpofaaVmoRep
namespace Go.Proofs.Ytkifgoadbnpofaa
open Go Go.RowKit
set_option maxRecDepth 100000

section
variable {w : World} {Y : Lay} {S : Vset} {pv : Value} {pf : Nat → Prop}

set_option maxHeartbeats 400000 in
theorem vsize_calls (n : Int) : Calls Try.prog 38 #[i64 n] w fun e w' => e = .returned (.tuple #[i64 (sizeUp n).1, i64 (sizeUp n).2]) ∧ w' = w := by
  by_cases h0 : n < 0
  · have H := Lib.hid (show sizeUp n = (0, -10) by simp [sizeUp, h0])
    go_enter Try.func38, Try.ntmps38
    go_wp2
    go_ret2
    rw [H.out]; exact ⟨rfl, rfl⟩
  · by_cases h1 : 4294967296 < n
    · have H := Lib.hid (show sizeUp n = (0, -14) by simp [sizeUp, h0, h1])
      go_enter Try.func38, Try.ntmps38
      go_wp2
      go_ret2
      rw [H.out]; exact ⟨rfl, rfl⟩
    · have H := Lib.hid (show sizeUp n = (up64 n, 0) by simp [sizeUp, h0, h1])
      have hb : decide (4294967296 < n) = false := by simpa using h1
      have Hu := Lib.hid (up_calls (w := w) n (by omega) (by omega))
      go_enter Try.func38, Try.ntmps38
      go_wp2_with (go_at_call 64; refine Hu.out.mono ?_; rintro e w' ⟨rfl, rfl⟩)
      go_ret2
      rw [H.out]; exact ⟨rfl, rfl⟩

/-- A new set. -/
def NewSet (w : World) (frames objects : Int) (e : Ending) (w' : World) : Prop :=
  ∃ Y pf, e = .returned (ptr Y.s) ∧ VRep w' Y ⟨⟨[], frames, 0⟩, [], objects, 0⟩ (.slice none 0 0) pf ∧ Mods (fun _ => False) w w' ∧ (∀ k, pf k ∨ Y.of k → w.heap.size ≤ k)
set_option maxHeartbeats 400000 in
theorem vnew_calls {n o : Int} (h0 : 0 ≤ n) (h1 : n ≤ 65536) (h2 : 0 ≤ o) (h3 : o ≤ 65536) : Calls Try.prog 12 #[i64 n, i64 o] w (NewSet w n o) := by
  have HN := Lib.hid (pnew_calls (w := w) h0 h1)
  have hb0 : decide (o < 0) = false := by simpa using h2
  have hb1 : decide (65536 < o) = false := by simpa using h3
  clear h0 h1
  go_enter Try.func12, Try.ntmps12
  go_wp2_with (go_at_call 37; refine HN.out.mono ?_; rintro e w1 ⟨rfl, hP, hM⟩; have HP := Lib.hid hP; have HM := Lib.hid hM; clear hP hM)
  go_ret
  have hw : w.heap.size < w1.heap.size := HP.out.lt _ rfl
  refine ⟨⟨w1.heap.size + 1, w.heap.size, w1.heap.size, fun _ => 0, fun _ => 0, fun _ => .slice none 0 0, fun k => k = w1.heap.size ∨ k = w1.heap.size + 1⟩, (fun k => k = w.heap.size), rfl, ?_, (HM.out.alloc _).alloc _, ?_⟩
  · refine ⟨?_, (HP.out.mods ((Mods.refl (fun _ => False) _).alloc _) (fun _ _ h => h)).mods ((Mods.refl (fun _ => False) _).alloc _) (fun _ _ h => h), ?_, by simp, by simp, by simp, by simp, by simp, by simp, by simp, by simp, by simp, ?_, .inr rfl, .inl rfl, by simp, by simp, by simp, ?_⟩
    · have := hp_alloc_new (w1.alloc (.map #[] 0)) (.cells #[ptr w.heap.size, .map (some w1.heap.size), i64 o, i64 0] tSet)
      have e : (w1.alloc (.map #[] 0)).heap.size = w1.heap.size + 1 := by simp
      rw [e] at this
      exact this
    · exact (MapAt_alloc (by simp)).2 (MapAt.new w1)
    · intro k hk h
      subst hk
      rcases h with h | h <;> omega
    · intro k hk
      rcases hk with rfl | rfl <;> simp <;> omega
  · intro k hk
    rcases hk with hk | hk | hk <;> omega

set_option maxHeartbeats 400000 in
theorem vcount_calls (R : VRep w Y S pv pf) : Calls Try.prog 31 #[ptr Y.s] w fun e w' => e = .returned (i64 S.objs.length) ∧ w' = w := by
  have c0 : w.cell? ⟨Y.s, 1, none⟩ = some (.map (some Y.m)) := (cell_of (o := 1) R.top).trans rfl
  have hM := R.map
  have hl := lensO Y.m (obs S Y)
  have Hl := Lib.hid (show (obs S Y).length = S.objs.length by simp [obs])
  generalize obs S Y = L at hM hl Hl
  clear R
  go_enter Try.func31, Try.ntmps31
  go_wp2
  go_ret
  exact ⟨by rw [← Hl.out]; rfl, rfl⟩

set_option maxHeartbeats 400000 in
theorem vroom_calls (R : VRep w Y S pv pf) : Calls Try.prog 23 #[ptr Y.s] w fun e w' => e = .returned (i64 (wrap64 (S.pool.cap - S.pool.used))) ∧ ∃ n, w' = w.drewN n := by
  have c0 : w.cell? ⟨Y.s, 0, none⟩ = some (ptr Y.pb) := (cell_of (o := 0) R.top).trans rfl
  have HP := Lib.hid (proom_calls R.pool)
  clear R
  go_enter Try.func23, Try.ntmps23
  go_wp2_with (go_at_call 50; refine HP.out.mono ?_; rintro e w' ⟨rfl, n, rfl⟩)
  go_ret
  exact ⟨rfl, n, rfl⟩

def Vset.ptr (S : Vset) (Y : Lay) (id : Int) : Value := match S.find id with
  | none => .pointer none
  | some _ => Go.Proofs.Ytkifgoadbnpofaa.ptr (Y.blk id)
set_option maxHeartbeats 400000 in
theorem vfind_calls (R : VRep w Y S pv pf) (id : Int) : Calls Try.prog 40 #[ptr Y.s, i64 id] w fun e w' => e = .returned (S.ptr Y id) ∧ w' = w := by
  have c1 : w.cell? ⟨Y.s, 1, none⟩ = some (.map (some Y.m)) := (cell_of (o := 1) R.top).trans rfl
  have hM := R.map
  have hk := R.look id
  have hl := lookupsO Y.m (obs S Y)
  generalize obs S Y = L at hM hk hl
  cases hg : S.at_ id with
  | none =>
    have H := Lib.hid (show S.ptr Y id = .pointer none by simp [Vset.ptr, Vset.find, hg])
    rw [hg] at hk
    clear hg R
    go_enter Try.func40, Try.ntmps40
    go_wp2
    go_ret
    rw [H.out]; exact ⟨rfl, rfl⟩
  | some o =>
    rw [hg] at hk
    have c7 : w.cell? ⟨Y.blk id, 7, none⟩ = some (.bool o.dropped) := (cell_of (o := 7) (R.hdr _ (get_mem hg))).trans rfl
    cases hd : o.dropped with
    | true =>
      have H := Lib.hid (show S.ptr Y id = .pointer none by simp [Vset.ptr, Vset.find, hg, hd])
      rw [hd] at c7
      clear hg R hd
      go_enter Try.func40, Try.ntmps40
      go_wp2
      go_ret
      rw [H.out]; exact ⟨rfl, rfl⟩
    | false =>
      have H := Lib.hid (show S.ptr Y id = ptr (Y.blk id) by simp [Vset.ptr, Vset.find, hg, hd])
      rw [hd] at c7
      clear hg R hd
      go_enter Try.func40, Try.ntmps40
      go_wp2
      go_ret
      rw [H.out]; exact ⟨rfl, rfl⟩
end
end Go.Proofs.Ytkifgoadbnpofaa
