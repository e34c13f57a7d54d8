/- Walks of layer 8: Op, but for zeroing. -/
import Derived.Test.YtkifgoadbnpofaaVmoH
import Derived.Test.YtkifgoadbnpofaaVmoPure3
namespace Go.Proofs.Ytkifgoadbnpofaa
open Go Go.RowKit
set_option maxRecDepth 100000

section
variable {w : World} {Y : Lay} {S : Vset} {pv : Value} {pf : Nat → Prop}
def OpPost (Y : Lay) (r : Vset × Int) (pf : Nat → Prop) (w : World) (e : Ending) (w' : World) : Prop := e = .returned (i64 r.2) ∧ VKeep Y r.1 pf w w'
theorem tmod64_zero (a : Int) : (a.tmod 64 == 0) = (a % 64 == 0) := by
  rw [Bool.eq_iff_iff, beq_iff_eq, beq_iff_eq]
  rw [← Int.dvd_iff_tmod_eq_zero, ← Int.dvd_iff_emod_eq_zero]
theorem vop_none (R : VRep w Y S pv pf) {id : Int} (op a n : Int) (h : S.find id = none) : Calls Try.prog 22 #[ptr Y.s, i64 id, i64 op, i64 a, i64 n] w (OpPost Y (S.op id op a n) pf w) := by
  have HF := Lib.hid (vfind_calls R id)
  have HR := Lib.hid R
  have H := Lib.hid (show S.op id op a n = (S, -25) by simp [Vset.op, h])
  rw [show S.ptr Y id = .pointer none by simp [Vset.ptr, h]] at HF
  clear h R
  go_enter Try.func22, Try.ntmps22
  go_wp2_with (go_at_call 40; refine HF.out.mono ?_; rintro e w' ⟨rfl, rfl⟩)
  go_ret
  unfold OpPost
  rw [H.out]
  exact ⟨rfl, VKeep.refl HR.out⟩
set_option maxHeartbeats 2000000 in
theorem vop_range (R : VRep w Y S pv pf) {id : Int} (op a n : Int) (h : op < 1 ∨ 3 < op) : Calls Try.prog 22 #[ptr Y.s, i64 id, i64 op, i64 a, i64 n] w (OpPost Y (S.op id op a n) pf w) := by
  cases hf : S.find id with
  | none => exact vop_none R op a n hf
  | some o =>
    have HF := Lib.hid (vfind_calls R id)
    have HR := Lib.hid R
    have H := Lib.hid (show S.op id op a n = (S, -10) by simp only [Vset.op, hf]; rw [if_pos (by omega)])
    rw [show S.ptr Y id = ptr (Y.blk id) by simp [Vset.ptr, hf]] at HF
    clear hf R
    by_cases h1 : op < 1
    · have d1 : decide (op < 1) = true := by simpa using h1
      clear h
      go_enter Try.func22, Try.ntmps22
      go_wp2_with (go_at_call 40; refine HF.out.mono ?_; rintro e w' ⟨rfl, rfl⟩)
      go_ret
      unfold OpPost
      rw [H.out]
      exact ⟨rfl, VKeep.refl HR.out⟩
    · have d1 : decide (op < 1) = false := by simpa using h1
      have d2 : decide (3 < op) = true := by simp; omega
      clear h
      go_enter Try.func22, Try.ntmps22
      go_wp2_with (go_at_call 40; refine HF.out.mono ?_; rintro e w' ⟨rfl, rfl⟩)
      go_ret
      unfold OpPost
      rw [H.out]
      exact ⟨rfl, VKeep.refl HR.out⟩

/-- Pages of an object with pages are committed no more: a loop. -/
theorem Vset.releases_take (S : Vset) (id : Int) {l : List Int} {k : Nat} (h : k < l.length) : S.releases id (l.take (k + 1)) = (S.releases id (l.take k)).release id (nth l k) := by
  unfold Vset.releases
  rw [take_nth h, List.foldl_append]; rfl
set_option maxHeartbeats 4000000 in
theorem vop_calls (R : VRep w Y S pv pf) (G : Good S) {id op : Int} (a n : Int) (hop : op = 1 ∨ op = 2) : Calls Try.prog 22 #[ptr Y.s, i64 id, i64 op, i64 a, i64 n] w (OpPost Y (S.op id op a n) pf w) := by
  cases hf : S.find id with
  | none => exact vop_none R op a n hf
  | some o =>
    have HF := Lib.hid (vfind_calls R id)
    have HRe := Lib.hid (vreach_calls R a n (G.reachOk id))
    have HR := Lib.hid R
    rw [show S.ptr Y id = ptr (Y.blk id) by simp [Vset.ptr, hf]] at HF
    have ta := tmod64_zero a
    have tn := tmod64_zero n
    by_cases h1 : a % 64 = 0
    · by_cases h2 : n % 64 = 0
      · rw [show (a % 64 == 0) = true by simpa using h1] at ta
        rw [show (n % 64 == 0) = true by simpa using h2] at tn
        have tb : (n % 64 == 0) = true := by simpa using h2
        have tb' : (n % 64 != 0) = false := by simpa using h2
        have tc : (a % 64 == 0) = true := by simpa using h1
        have tc' : (a % 64 != 0) = false := by simpa using h1
        have ta' : (a.tmod 64 != 0) = false := by unfold bne; rw [ta]; rfl
        have tn' : (n.tmod 64 != 0) = false := by unfold bne; rw [tn]; rfl
        cases hin : inside a n o.size with
        | false =>
          have hre : S.reach id a n = (0, 0, -14) := by simp [Vset.reach, hf, hin]
          have H := Lib.hid (show S.op id op a n = (S, -14) by simp only [Vset.op, hf]; rw [if_neg (by omega), if_pos (by simp [hre]), hre])
          rw [show S.reachPtr Y id a n = .pointer none by simp [Vset.reachPtr, hre], hre] at HRe
          clear hf R G hin hre h1 h2
          rcases hop with rfl | rfl
          ·
            go_enter Try.func22, Try.ntmps22
            go_wp2_with (first
              | (go_at_call 40; refine HF.out.mono ?_; rintro e w' ⟨rfl, rfl⟩)
              | (go_at_call 41; refine HRe.out.mono ?_; rintro e w' ⟨rfl, k, rfl⟩))
            go_ret
            unfold OpPost
            rw [H.out]
            exact ⟨rfl, pv, pf, HR.out.keep (by simp) (fun _ _ => rfl), (Mods.refl _ _).drewN _, fun _ h => .inl h⟩
          ·
            go_enter Try.func22, Try.ntmps22
            go_wp2_with (first
              | (go_at_call 40; refine HF.out.mono ?_; rintro e w' ⟨rfl, rfl⟩)
              | (go_at_call 41; refine HRe.out.mono ?_; rintro e w' ⟨rfl, k, rfl⟩))
            go_ret
            unfold OpPost
            rw [H.out]
            exact ⟨rfl, pv, pf, HR.out.keep (by simp) (fun _ _ => rfl), (Mods.refl _ _).drewN _, fun _ h => .inl h⟩
        | true =>
          obtain ⟨hat, _⟩ := vreach_facts hf
          obtain ⟨ob, b1, b2, b3, b4, b5⟩ := G.base_in hat
          have hre : S.reach id a n = ((S.base Vset.fuel id 0).1, (S.base Vset.fuel id 0).2 + a, 0) := by simp [Vset.reach, hf, hin]
          have hob := G.size _ (G.mem b1)
          simp only at hob
          have hin' := hin
          simp only [inside, decide_eq_true_eq] at hin'
          by_cases hbig : 4096 < n
          · have H := Lib.hid (show S.op id op a n = (S, -10) by simp only [Vset.op, hf]; rw [if_neg (by omega), if_neg (by simp [hre]), if_pos hbig])
            rw [show S.reachPtr Y id a n = ptr (Y.blk (S.base Vset.fuel id 0).1) by simp [Vset.reachPtr, hre], hre] at HRe
            simp only at HRe
            clear hf R G hin hre h1 h2 hat b1 b2 b3 b4 b5 hob hin'
            generalize S.base Vset.fuel id 0 = B at *
            rcases hop with rfl | rfl
            ·
              go_enter Try.func22, Try.ntmps22
              go_wp2_with (first
                | (go_at_call 40; refine HF.out.mono ?_; rintro e w' ⟨rfl, rfl⟩)
                | (go_at_call 41; refine HRe.out.mono ?_; rintro e w' ⟨rfl, k, rfl⟩))
              go_ret
              unfold OpPost
              rw [H.out]
              exact ⟨rfl, pv, pf, HR.out.keep (by simp) (fun _ _ => rfl), (Mods.refl _ _).drewN _, fun _ h => .inl h⟩
            ·
              go_enter Try.func22, Try.ntmps22
              go_wp2_with (first
                | (go_at_call 40; refine HF.out.mono ?_; rintro e w' ⟨rfl, rfl⟩)
                | (go_at_call 41; refine HRe.out.mono ?_; rintro e w' ⟨rfl, k, rfl⟩))
              go_ret
              unfold OpPost
              rw [H.out]
              exact ⟨rfl, pv, pf, HR.out.keep (by simp) (fun _ _ => rfl), (Mods.refl _ _).drewN _, fun _ h => .inl h⟩
          · have hbb : decide (4096 < n) = false := by simpa using hbig
            have H := Lib.hid (show S.op id op a n = if op = 1 then S.commit (S.base Vset.fuel id 0).1 (touched ((S.base Vset.fuel id 0).2 + a) n) else (S.releases (S.base Vset.fuel id 0).1 (touched ((S.base Vset.fuel id 0).2 + a) n), 0) by
              simp only [Vset.op, hf]
              rw [if_neg (by omega), if_neg (by simp [hre]), if_neg hbig, hre]
              simp only
              by_cases e : op = 1
              · rw [if_pos e, if_pos e]
              · rw [if_neg e, if_neg e, if_neg (by omega)])
            rw [show S.reachPtr Y id a n = ptr (Y.blk (S.base Vset.fuel id 0).1) by simp [Vset.reachPtr, hre], hre] at HRe
            simp only at HRe
            have hA0 : 0 ≤ (S.base Vset.fuel id 0).2 + a := by omega
            have hA1 : (S.base Vset.fuel id 0).2 + a + n ≤ ob.size := by omega
            have hn0 : 0 ≤ n := by omega
            clear hin' h1 h2
            generalize S.base Vset.fuel id 0 = B at *
            obtain ⟨bi, bf⟩ := B
            simp only at *
            generalize bf + a = A at *
            have HT := Lib.hid (fun (w1 : World) => touched_calls (w := w1) A n hA0 (by omega) (by omega) (by omega))
            have hnp : (touched A n).length ≤ 65 + 1 := by rw [touched_len]; unfold npages; split <;> omega
            have HB1 := Lib.hid b1
            have HB2 := Lib.hid b2
            have HNI := Lib.hid (fun (w1 : World) (v : Value) (n' : Nat) (hN : NewInts (w.drewN n') (touched A n) v w1) => (show VRep w1 Y S pv pf ∧ IntsAt w1 v (touched A n) ∧ ∀ k, v.ownBlock = some k → ¬ pf k ∧ ¬ Y.of k ∧ k < w1.heap.size from
              ⟨R.mods (((Mods.refl (fun _ => False) w).drewN n').trans hN.2.2 (fun _ h => h.elim)) (fun _ _ h => h), IntsAt.ofRow hN.1 (by unfold maxLen; omega), fun k hk => by
                have h1 := hN.2.1 k hk
                have h3 : k < w1.heap.size := by obtain ⟨cur, hc⟩ := hN.1.block hk; exact hp_lt hc
                have h1 : w.heap.size ≤ k := h1
                refine ⟨fun h => ?_, fun h => ?_, h3⟩
                · have := R.pool.lt k h; omega
                · have := R.lt k h; omega⟩))
            have HC := Lib.hid (fun (w1 : World) (v : Value) (n' : Nat) (hN : NewInts (w.drewN n') (touched A n) v w1) =>
              vcommit_calls (HNI.out w1 v n' hN).1 b1 b2 (HNI.out w1 v n' hN).2.1 (by omega) (HNI.out w1 v n' hN).2.2 (G.pools' b1))
            clear hf R G hin hre hat b1 b2 b3 b4 b5 hob hA1
            rcases hop with rfl | rfl
            · rw [if_pos rfl] at H
              go_enter Try.func22, Try.ntmps22
              go_wp2_with (first
                | (go_at_call 40; refine HF.out.mono ?_; rintro e w' ⟨rfl, rfl⟩)
                | (go_at_call 41; refine HRe.out.mono ?_; rintro e w' ⟨rfl, k, rfl⟩)
                | (go_at_call 43; refine (HT.out _).mono ?_; rintro e w1 ⟨v1, rfl, hN⟩; have HN := Lib.hid hN; clear hN)
                | (go_at_call 42; refine (HC.out _ _ _ HN.out).mono ?_; rintro e w2 ⟨rfl, hK⟩; have HK := Lib.hid hK; clear hK))
              go_ret
              unfold OpPost
              rw [H.out]
              have M1 := ((Mods.refl (fun _ => False) w').drewN k).trans HN.out.2.2 (fun _ h => h.elim)
              exact ⟨rfl, VKeep.trans (HR.out.mods M1 (fun _ _ h => h)) (M1.mono (fun _ h => h.elim)) (fun _ h => .inl h) HK.out⟩
            · rw [if_neg (by decide)] at H
              generalize hTT : touched A n = T at *
              clear hTT
              go_enter Try.func22, Try.ntmps22
              go_wp2_with (first
                | (go_at_call 40; refine HF.out.mono ?_; rintro e w' ⟨rfl, rfl⟩)
                | (go_at_call 41; refine HRe.out.mono ?_; rintro e w' ⟨rfl, k, rfl⟩)
                | (go_at_call 43; refine (HT.out _).mono ?_; rintro e w1 ⟨v1, rfl, hN⟩; obtain ⟨hR1, hI1, ho1⟩ := HNI.out _ _ _ hN; have HR1 := Lib.hid hR1; have HI1 := Lib.hid hI1; have Ho1 := Lib.hid ho1; obtain ⟨na, nc, rfl⟩ := hN.1.shape; have HMM := Lib.hid (((Mods.refl (fun _ => False) w').drewN k).trans hN.2.2 (fun _ h => h.elim)); clear hN hR1 hI1 ho1))
              go_loopg [76] T.length (fun g i wr => ∃ k : Nat, k ≤ T.length ∧ i = .int .i64 k ∧ T.length - k = g ∧ VKeep Y (S.releases bi (T.take k)) pf w1 wr ∧ ∃ fr, (S.releases bi (T.take k)).at_ bi = some { ob with frames := fr })
              case atStart => exact ⟨0, by omega, rfl, rfl, VKeep.refl HR1.out, ob.frames, HB1.out⟩
              case round =>
                obtain ⟨k, hkl, rfl, rfl, ⟨pv1, pf1, hR2, hM2, hf2⟩, fr, hat⟩ := hrel
                have HR2 := Lib.hid hR2
                have HM2 := Lib.hid hM2
                have Hf2 := Lib.hid hf2
                have Hat := Lib.hid hat
                clear hR2 hM2 hf2 hat
                by_cases hlt : k < T.length
                · have hv1 : IntsAt wr (.slice na T.length nc) T := HI1.out.of HM2.out.size (fun j hj hj2 => HM2.out.block j hj2 (by rintro (h | h); exact (Ho1.out j hj).1 h; exact (Ho1.out j hj).2.1 h))
                  obtain ⟨a', c', he, _, hr'⟩ := hv1
                  cases he
                  obtain ⟨vb, voff, rfl, hvlt, hvc⟩ := hr' (by omega)
                  have hce := hvc k hlt
                  clear hvc hvlt hr'
                  have Hst := Lib.hid (Vset.releases_take S bi hlt)
                  have HRl := Lib.hid (vrelease_calls HR2.out Hat.out HB2.out (nth T k))
                  have Hnx := Lib.hid (Vset.release_at Hat.out (nth T k))
                  generalize S.releases bi (T.take k) = S1 at *
                  generalize nth T k = p at *
                  go_wp2_with (go_at_call 49; refine HRl.out.mono ?_; rintro e w3 ⟨rfl, hK⟩; have HK := Lib.hid hK; clear hK)
                  go_roundg (T.length - (k + 1))
                  case measure => omega
                  case rel => exact ⟨k + 1, by omega, by go_num, rfl, by rw [Hst.out]; exact VKeep.trans HR2.out HM2.out Hf2.out HK.out, by rw [Hst.out]; obtain ⟨fr', h⟩ := Hnx.out; exact ⟨fr', h⟩⟩
                · have hkN : k = T.length := by omega
                  subst hkN
                  have Htk := Lib.hid (List.take_length (l := T))
                  go_wp2
                  go_ret
                  unfold OpPost
                  rw [H.out]
                  have hK : VKeep Y (S.releases bi T) pf w1 wr := by have h := HR2.out; rw [Htk.out] at h; exact ⟨pv1, pf1, h, HM2.out, Hf2.out⟩
                  have M1 := HMM.out
                  exact ⟨rfl, VKeep.trans (HR.out.mods M1 (fun _ _ h => h)) (M1.mono (fun _ h => h.elim)) (fun _ h => .inl h) hK⟩
      · have H := Lib.hid (show S.op id op a n = (S, -10) by simp only [Vset.op, hf]; rw [if_pos (by omega)])
        rw [show (a % 64 == 0) = true by simpa using h1] at ta
        rw [show (n % 64 == 0) = false by simpa using h2] at tn
        have ta' : (a.tmod 64 != 0) = false := by unfold bne; rw [ta]; rfl
        have tn' : (n.tmod 64 != 0) = true := by unfold bne; rw [tn]; rfl
        clear hf R G h1 h2
        rcases hop with rfl | rfl
        ·
          go_enter Try.func22, Try.ntmps22
          go_wp2_with (go_at_call 40; refine HF.out.mono ?_; rintro e w' ⟨rfl, rfl⟩)
          go_ret
          unfold OpPost
          rw [H.out]
          exact ⟨rfl, VKeep.refl HR.out⟩
        ·
          go_enter Try.func22, Try.ntmps22
          go_wp2_with (go_at_call 40; refine HF.out.mono ?_; rintro e w' ⟨rfl, rfl⟩)
          go_ret
          unfold OpPost
          rw [H.out]
          exact ⟨rfl, VKeep.refl HR.out⟩
    · have H := Lib.hid (show S.op id op a n = (S, -10) by simp only [Vset.op, hf]; rw [if_pos (by omega)])
      rw [show (a % 64 == 0) = false by simpa using h1] at ta
      have ta' : (a.tmod 64 != 0) = true := by unfold bne; rw [ta]; rfl
      clear hf R G h1 tn
      rcases hop with rfl | rfl
      ·
        go_enter Try.func22, Try.ntmps22
        go_wp2_with (go_at_call 40; refine HF.out.mono ?_; rintro e w' ⟨rfl, rfl⟩)
        go_ret
        unfold OpPost
        rw [H.out]
        exact ⟨rfl, VKeep.refl HR.out⟩
      ·
        go_enter Try.func22, Try.ntmps22
        go_wp2_with (go_at_call 40; refine HF.out.mono ?_; rintro e w' ⟨rfl, rfl⟩)
        go_ret
        unfold OpPost
        rw [H.out]
        exact ⟨rfl, VKeep.refl HR.out⟩
end
end Go.Proofs.Ytkifgoadbnpofaa
