/- Walks of layer 8: window, Slice. -/
import Derived.Test.YtkifgoadbnpofaaVmoK
namespace Go.Proofs.Ytkifgoadbnpofaa
open Go Go.RowKit
set_option maxRecDepth 100000

def Vset.windowPtr (S : Vset) (Y : Lay) (id a n : Int) : Value := if S.window id a n = 0 then Go.Proofs.Ytkifgoadbnpofaa.ptr (Y.blk id) else .pointer none
theorem tmod64 (a : Int) (h : 0 ≤ a) : wrap64 (a.tmod 64) = a % 64 := by
  rw [Int.tmod_eq_emod_of_nonneg h, w64 (by omega) (by omega)]
section
variable {w : World} {Y : Lay} {S : Vset} {pv : Value} {pf : Nat → Prop}
set_option maxHeartbeats 2000000 in
theorem vwindow_calls (R : VRep w Y S pv pf) {id : Int} (a n : Int) (hsz : ∀ o, S.find id = some o → 0 ≤ o.size ∧ o.size ≤ 8589934592) :
    Calls Try.prog 46 #[ptr Y.s, i64 id, i64 a, i64 n] w fun e w' => e = .returned (.tuple #[S.windowPtr Y id a n, i64 (S.window id a n)]) ∧ w' = w := by
  have HF := Lib.hid (vfind_calls R id)
  cases h : S.find id with
  | none =>
    have H := Lib.hid (show S.window id a n = -25 by simp [Vset.window, h])
    have H2 := Lib.hid (show S.windowPtr Y id a n = .pointer none by simp [Vset.windowPtr, Vset.window, h])
    rw [show S.ptr Y id = .pointer none by simp [Vset.ptr, h]] at HF
    clear h R hsz
    go_enter Try.func46, Try.ntmps46
    go_wp2_with (go_at_call 40; refine HF.out.mono ?_; rintro e w' ⟨rfl, rfl⟩)
    go_ret2
    rw [H.out, H2.out]; exact ⟨rfl, rfl⟩
  | some o =>
    obtain ⟨hat, _⟩ := vreach_facts h
    obtain ⟨hs0, hs1⟩ := hsz o h
    rw [show S.ptr Y id = ptr (Y.blk id) by simp [Vset.ptr, h]] at HF
    by_cases hbad : a < 0 ∨ n < 0 ∨ a % 64 ≠ 0 ∨ n % 64 ≠ 0
    · have H := Lib.hid (show S.window id a n = -10 by simp only [Vset.window, h]; rw [if_pos hbad])
      have H2 := Lib.hid (show S.windowPtr Y id a n = .pointer none by simp only [Vset.windowPtr, Vset.window, h]; rw [if_pos hbad]; rfl)
      clear h R hsz hat
      by_cases h1 : a < 0
      · clear hbad
        go_enter Try.func46, Try.ntmps46
        go_wp2_with (go_at_call 40; refine HF.out.mono ?_; rintro e w' ⟨rfl, rfl⟩)
        go_ret2
        rw [H.out, H2.out]; exact ⟨rfl, rfl⟩
      · by_cases h2 : n < 0
        · clear hbad
          go_enter Try.func46, Try.ntmps46
          go_wp2_with (go_at_call 40; refine HF.out.mono ?_; rintro e w' ⟨rfl, rfl⟩)
          go_ret2
          rw [H.out, H2.out]; exact ⟨rfl, rfl⟩
        · have t1 := tmod64 a (by omega)
          have t2 := tmod64 n (by omega)
          by_cases h3 : a % 64 = 0
          · have h4 : (n % 64 == 0) = false := by simp; omega
            have h4' : (n % 64 != 0) = true := by simp; omega
            have h3' : (a % 64 == 0) = true := by simpa using h3
            have h3'' : (a % 64 != 0) = false := by simpa using h3
            have d1 : decide (a < 0) = false := by simpa using h1
            have d2 : decide (n < 0) = false := by simpa using h2
            clear hbad h3
            go_enter Try.func46, Try.ntmps46
            go_wp2_with (go_at_call 40; refine HF.out.mono ?_; rintro e w' ⟨rfl, rfl⟩)
            go_ret2
            rw [H.out, H2.out]; exact ⟨rfl, rfl⟩
          · have h3' : (a % 64 == 0) = false := by simpa using h3
            have h3'' : (a % 64 != 0) = true := by simpa using h3
            have d1 : decide (a < 0) = false := by simpa using h1
            have d2 : decide (n < 0) = false := by simpa using h2
            clear hbad h3
            go_enter Try.func46, Try.ntmps46
            go_wp2_with (go_at_call 40; refine HF.out.mono ?_; rintro e w' ⟨rfl, rfl⟩)
            go_ret2
            rw [H.out, H2.out]; exact ⟨rfl, rfl⟩
    · have ha0 : 0 ≤ a := by omega
      have hn0 : 0 ≤ n := by omega
      have t1 := tmod64 a ha0
      have t2 := tmod64 n hn0
      have h3 : (a % 64 == 0) = true := by simp; omega
      have h4 : (n % 64 == 0) = true := by simp; omega
      have h3' : (a % 64 != 0) = false := by simp; omega
      have h4' : (n % 64 != 0) = false := by simp; omega
      have d1 : decide (a < 0) = false := by simpa using ha0
      have d2 : decide (n < 0) = false := by simpa using hn0
      have hh := R.hdr _ (get_mem hat)
      have c0 : w.cell? ⟨Y.blk id, 0, none⟩ = some (i64 o.size) := (cell_of (o := 0) hh).trans rfl
      have HW := Lib.hid (within_calls (w := w) a n o.size hs0 (by omega))
      cases hin : inside a n o.size with
      | false =>
        have H := Lib.hid (show S.window id a n = -14 by simp only [Vset.window, h]; rw [if_neg hbad]; simp [hin])
        have H2 := Lib.hid (show S.windowPtr Y id a n = .pointer none by simp only [Vset.windowPtr, Vset.window, h]; rw [if_neg hbad]; simp [hin])
        rw [hin] at HW
        clear h R hsz hat hh hin hbad
        generalize o.size = sz at *
        go_enter Try.func46, Try.ntmps46
        go_wp2_with (first
          | (go_at_call 40; refine HF.out.mono ?_; rintro e w' ⟨rfl, rfl⟩)
          | (go_at_call 52; refine HW.out.mono ?_; rintro e w' ⟨rfl, rfl⟩))
        go_ret2
        rw [H.out, H2.out]; exact ⟨rfl, rfl⟩
      | true =>
        have H := Lib.hid (show S.window id a n = 0 by simp only [Vset.window, h]; rw [if_neg hbad]; simp [hin])
        have H2 := Lib.hid (show S.windowPtr Y id a n = ptr (Y.blk id) by simp only [Vset.windowPtr, Vset.window, h]; rw [if_neg hbad]; simp [hin])
        rw [hin] at HW
        clear h R hsz hat hh hin hbad
        generalize o.size = sz at *
        go_enter Try.func46, Try.ntmps46
        go_wp2_with (first
          | (go_at_call 40; refine HF.out.mono ?_; rintro e w' ⟨rfl, rfl⟩)
          | (go_at_call 52; refine HW.out.mono ?_; rintro e w' ⟨rfl, rfl⟩))
        go_ret2
        rw [H.out, H2.out]; exact ⟨rfl, rfl⟩
theorem Vset.window_ok {id a n : Int} (h : S.window id a n = 0) : ∃ o, S.find id = some o ∧ S.at_ id = some o ∧ 0 ≤ a ∧ 0 ≤ n ∧ a % 64 = 0 ∧ n % 64 = 0 ∧ inside a n o.size = true := by
  unfold Vset.window at h
  cases hf : S.find id with
  | none => rw [hf] at h; simp at h
  | some o =>
    rw [hf] at h
    simp only at h
    split at h
    · cases h
    · rename_i hb
      split at h
      · rename_i hi
        exact ⟨o, rfl, (vreach_facts hf).1, by omega, by omega, by omega, by omega, hi⟩
      · cases h

set_option maxHeartbeats 2000000 in
theorem vslice_calls (R : VRep w Y S pv pf) (G : Good S) (hl : S.last < 4611686018427387904) (id a n : Int) :
    Calls Try.prog 18 #[ptr Y.s, i64 id, i64 a, i64 n] w (MadePost Y (S.slice id a n) pf w) := by
  have HW := Lib.hid (vwindow_calls R a n (fun o h => by have := G.reachOk id o h; exact ⟨this.1, this.2.1⟩))
  have HR := Lib.hid R
  by_cases hw : S.window id a n = 0
  · obtain ⟨o, hf, hat, ha0, hn0, ha1, hn1, hin⟩ := Vset.window_ok hw
    rw [show S.windowPtr Y id a n = ptr (Y.blk id) by simp [Vset.windowPtr, hw], hw] at HW
    have hh := R.hdr _ (G.mem hat)
    have c6 : w.cell? ⟨Y.blk id, 6, none⟩ = some (i64 o.depth) := (cell_of (o := 6) hh).trans rfl
    have hd := G.depth _ (G.mem hat)
    simp only at hd
    by_cases hdp : 16 ≤ o.depth
    · have H := Lib.hid (show S.slice id a n = (S, 0, -2) by simp [Vset.slice, hw, hat, hdp])
      clear R G hw hf hat hh hin
      generalize o.depth = d at *
      go_enter Try.func18, Try.ntmps18
      go_wp2_with (go_at_call 46; refine HW.out.mono ?_; rintro e w' ⟨rfl, rfl⟩)
      go_ret2
      unfold MadePost
      rw [H.out]
      exact ⟨rfl, VUpd.same HR.out (Mods.refl _ _)⟩
    · have hsl : S.slice id a n = S.add ⟨n, id, [], [], true, a, o.depth + 1, false⟩ := by simp [Vset.slice, hw, hat, hdp]
      have hdb : decide (16 ≤ o.depth) = false := by simpa using hdp
      obtain ⟨hwl, hn, hne⟩ := G.fresh hl
      have hlt : ∀ k, (pf k ∨ Y.of k) → k < w.heap.size := fun k hk => by rcases hk with hk | hk; exact R.pool.lt k hk; exact R.lt k hk
      have MA := Lib.hid (fun (o1 : Obj) => (Mods.refl (fun _ => False) w).alloc o1)
      by_cases hfull : S.most ≤ S.objs.length
      · have H := Lib.hid (show S.slice id a n = (S, 0, -4) by rw [hsl]; simp [Vset.add, hfull])
        have HA := Lib.hid (fun (w1 : World) (M : Mods (fun _ => False) w w1) (b : Nat) => vadd_full (R.mods M (fun _ _ h => h)) b hfull)
        clear R G hw hf hat hh hin hsl hwl hn hne hlt hfull hdp
        generalize o.depth = d at *
        go_enter Try.func18, Try.ntmps18
        go_wp2_with (first
          | (go_at_call 46; refine HW.out.mono ?_; rintro e w' ⟨rfl, rfl⟩)
          | (go_at_call 39; refine (HA.out _ (MA.out _) _).mono ?_; rintro e w2 ⟨rfl, hR, hM⟩; have HR2 := Lib.hid hR; have HM2 := Lib.hid hM; clear hR hM))
        go_ret2
        unfold MadePost
        rw [H.out]
        exact ⟨rfl, VUpd.same HR.out ((MA.out _).trans HM2.out (fun _ h => h.elim))⟩
      · have hid : (S.add ⟨n, id, [], [], true, a, o.depth + 1, false⟩).2 = (S.last + 1, 0) := by
          rw [Vset.add_ok hfull hwl.symm (show id ≠ S.last + 1 from hne _ _ hat)]
          simp only
          rw [hat]
        have H := Lib.hid (show S.slice id a n = ((S.add ⟨n, id, [], [], true, a, o.depth + 1, false⟩).1, S.last + 1, 0) by rw [hsl, ← hid])
        have HA := Lib.hid (fun (W : World) (hW : W = w.alloc (.cells #[i64 n, i64 id, .map none, .slice none 0 0, .bool true, i64 a, i64 (o.depth + 1), .bool false] tVobj)) =>
          (show Calls Try.prog 39 #[ptr Y.s, .pointer (some ⟨w.heap.size, 0, none⟩)] W (AddPost Y (S.add ⟨n, id, [], [], true, a, o.depth + 1, false⟩).1 pv pf (S.last + 1) w.heap.size w.heap.size W) by
            subst hW
            have h1 := hp_alloc_new w (.cells #[i64 n, i64 id, .map none, .slice none 0 0, .bool true, i64 a, i64 (o.depth + 1), .bool false] tVobj)
            exact vadd_calls (R.mods (MA.out _) (fun _ _ h => h)) (mb := w.heap.size) (o := ⟨n, id, [], [], true, a, o.depth + 1, false⟩) hfull hwl.symm hn
              (show id ≠ S.last + 1 from hne _ _ hat) rfl rfl ⟨fun h => by have := hlt _ (.inr h); omega, fun h => by have := hlt _ (.inl h); omega⟩
              (fun h => by cases h) h1 (fun h => by cases h) (fun up h => G.kidsLen h)))
        clear R G hw hf hat hh hin hsl hwl hn hne hlt hfull hid hdp
        generalize hdd : o.depth = d at *
        clear hdd
        go_enter Try.func18, Try.ntmps18
        go_wp2_with (first
          | (go_at_call 46; refine HW.out.mono ?_; rintro e w' ⟨rfl, rfl⟩)
          | (go_at_call 39; refine (HA.out _ rfl).mono ?_; rintro e w2 ⟨rfl, hA⟩; have HA2 := Lib.hid hA; clear hA))
        go_ret2
        unfold MadePost
        rw [H.out]
        exact ⟨rfl, HA2.out.upd (MA.out _) (Nat.le_refl _) (Nat.le_refl _)⟩
  · have H := Lib.hid (show S.slice id a n = (S, 0, S.window id a n) by simp [Vset.slice, hw])
    rw [show S.windowPtr Y id a n = .pointer none by simp [Vset.windowPtr, hw]] at HW
    have hwb : (S.window id a n == 0) = false := by simpa using hw
    clear R G hw
    generalize S.window id a n = st at *
    go_enter Try.func18, Try.ntmps18
    go_wp2_with (go_at_call 46; refine HW.out.mono ?_; rintro e w' ⟨rfl, rfl⟩)
    go_ret2
    unfold MadePost
    rw [H.out]
    exact ⟨rfl, VUpd.same HR.out (Mods.refl _ _)⟩
end
end Go.Proofs.Ytkifgoadbnpofaa
