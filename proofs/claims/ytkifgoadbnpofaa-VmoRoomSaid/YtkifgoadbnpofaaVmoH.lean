/- Walks of layer 8: Write. -/
import Derived.Test.YtkifgoadbnpofaaVmoG
namespace Go.Proofs.Ytkifgoadbnpofaa
open Go Go.RowKit
set_option maxRecDepth 100000

theorem VKeep.trans {Y : Lay} {S1 S2 : Vset} {pv1 : Value} {pf pf1 : Nat → Prop} {w w1 w2 : World} (_ : VRep w1 Y S1 pv1 pf1) (M : Mods (fun k => pf k ∨ Y.of k) w w1) (hf : ∀ k, pf1 k → pf k ∨ w.heap.size ≤ k)
    (h : VKeep Y S2 pf1 w1 w2) : VKeep Y S2 pf w w2 := by
  obtain ⟨pv2, pf2, R2, M2, hf2⟩ := h
  refine ⟨pv2, pf2, R2, M.trans M2 (fun i hi => ?_), fun k hk => ?_⟩
  · rcases hi with hi | hi
    · rcases hf i hi with h | h
      · exact .inl (.inl h)
      · exact .inr h
    · exact .inl (.inr hi)
  · rcases hf2 k hk with h | h
    · exact hf k h
    · exact .inr (Nat.le_trans M.size h)

section
variable {w : World} {Y : Lay} {S : Vset} {pv : Value} {pf : Nat → Prop}
/-- The pools on the way through a commit are small. -/
theorem Good.pools (G : Good S) {id : Int} {o : Vobj} (hg : S.at_ id = some o) {list : List Int} (hroom : (list.countP (needs S.pool o.frames) : Nat) ≤ S.pool.cap - S.pool.used) :
    ∀ k, k ≤ list.length → ((list.take k).foldl commit1 (S.pool, o.frames)).1.frames.length ≤ 65536 := by
  intro k _
  have h1 : (list.take k).countP (needs S.pool o.frames) ≤ list.countP (needs S.pool o.frames) := (List.take_sublist k list).countP_le
  obtain ⟨St, _⟩ := CInv.commits (list.take k) (G.cinv hg) (by omega)
  exact St.inv.inv.lens
def WritePost (Y : Lay) (S : Vset) (id a : Int) (l : List Int) (pf : Nat → Prop) (w : World) (e : Ending) (w' : World) : Prop :=
  e = .returned (i64 (S.write id a l).2) ∧ VKeep Y (S.write id a l).1 pf w w'
theorem Good.pools' (G : Good S) {id : Int} {o : Vobj} (hg : S.at_ id = some o) {list : List Int} (h : ¬ wrap64 (S.pool.cap - S.pool.used) < (list.countP (needs S.pool o.frames) : Nat)) :
    ∀ k, k ≤ list.length → ((list.take k).foldl commit1 (S.pool, o.frames)).1.frames.length ≤ 65536 := G.pools hg (by rw [G.roomw] at h; omega)

set_option maxHeartbeats 2000000 in
theorem vwrite_calls (R : VRep w Y S pv pf) (G : Good S) (id a : Int) {v : Value} {l : List Int} (hv : BytesAt w v l)
    (hvo : ∀ k, Live v l k → ¬ pf k ∧ ¬ Y.of k ∧ k < w.heap.size) :
    Calls Try.prog 15 #[ptr Y.s, i64 id, i64 a, v] w (WritePost Y S id a l pf w) := by
  have HF := Lib.hid (vfind_calls R id)
  have HRe := Lib.hid (vreach_calls R a (l.length : Int) (G.reachOk id))
  have HR := Lib.hid R
  have Hv := Lib.hid hv
  have Hvo := Lib.hid hvo
  obtain ⟨va, vc, rfl, hvc, hvm, hvr⟩ := hv
  clear hvc hvr
  unfold maxLen at hvm
  cases h : S.find id with
  | none =>
    have hre : S.reach id a l.length = (0, 0, -25) := by simp [Vset.reach, h]
    have H := Lib.hid (show S.write id a l = (S, -25) by simp [Vset.write, h, hre])
    rw [show S.ptr Y id = .pointer none by simp [Vset.ptr, h]] at HF
    rw [show S.reachPtr Y id a l.length = .pointer none by simp [Vset.reachPtr, hre], hre] at HRe
    clear h R G hre hvo
    go_enter Try.func15, Try.ntmps15
    go_wp2_with (first
      | (go_at_call 40; refine HF.out.mono ?_; rintro e w' ⟨rfl, rfl⟩)
      | (go_at_call 41; refine HRe.out.mono ?_; rintro e w' ⟨rfl, k, rfl⟩))
    go_ret
    unfold WritePost
    rw [H.out]; exact ⟨rfl, pv, pf, HR.out.keep (by simp) (fun _ _ => rfl), (Mods.refl _ _).drewN _, fun _ h => .inl h⟩
  | some o =>
    obtain ⟨hat, hdr⟩ := vreach_facts h
    rw [show S.ptr Y id = ptr (Y.blk id) by simp [Vset.ptr, h]] at HF
    by_cases hn1 : 4096 < l.length
    · have H := Lib.hid (show S.write id a l = (S, -10) by simp [Vset.write, h, hn1])
      have hnb : decide ((4096 : Int) < (l.length : Int)) = true := by simp; omega
      clear h R G HRe hat hdr hvo
      go_enter Try.func15, Try.ntmps15
      go_wp2_with (go_at_call 40; refine HF.out.mono ?_; rintro e w' ⟨rfl, rfl⟩)
      go_ret
      unfold WritePost
      rw [H.out]; exact ⟨rfl, VKeep.refl HR.out⟩
    · have hnb : decide ((4096 : Int) < (l.length : Int)) = false := by simp; omega
      cases hin : inside a l.length o.size with
      | false =>
        have hre : S.reach id a l.length = (0, 0, -14) := by simp [Vset.reach, h, hin]
        have H := Lib.hid (show S.write id a l = (S, -14) by simp [Vset.write, hre, hn1])
        rw [show S.reachPtr Y id a l.length = .pointer none by simp [Vset.reachPtr, hre], hre] at HRe
        clear h R G hre hin hat hdr hvo
        go_enter Try.func15, Try.ntmps15
        go_wp2_with (first
          | (go_at_call 40; refine HF.out.mono ?_; rintro e w' ⟨rfl, rfl⟩)
          | (go_at_call 41; refine HRe.out.mono ?_; rintro e w' ⟨rfl, k, rfl⟩))
        go_ret
        unfold WritePost
        rw [H.out]; exact ⟨rfl, pv, pf, HR.out.keep (by simp) (fun _ _ => rfl), (Mods.refl _ _).drewN _, fun _ h => .inl h⟩
      | true =>
        obtain ⟨ob, b1, b2, b3, b4, b5⟩ := G.base_in hat
        have hre : S.reach id a l.length = ((S.base Vset.fuel id 0).1, (S.base Vset.fuel id 0).2 + a, 0) := by simp [Vset.reach, h, hin]
        have hob := G.size _ (G.mem b1)
        simp only at hob
        have hin' := hin
        simp only [inside, decide_eq_true_eq] at hin'
        have hW : S.write id a l = (let r := S.commit (S.base Vset.fuel id 0).1 (touched ((S.base Vset.fuel id 0).2 + a) l.length)
            if r.2 ≠ 0 then r else match r.1.at_ (S.base Vset.fuel id 0).1 with
              | none => (r.1, 0)
              | some o => ({ r.1 with pool := putBytes r.1.pool o.frames (l.length + 1) ((S.base Vset.fuel id 0).2 + a) l }, 0)) := by
          unfold Vset.write
          rw [hre, if_neg (by omega), if_neg (by simp)]
          rfl
        rw [show S.reachPtr Y id a l.length = ptr (Y.blk (S.base Vset.fuel id 0).1) by simp [Vset.reachPtr, hre], hre] at HRe
        simp only at HRe hW
        generalize S.base Vset.fuel id 0 = B at *
        obtain ⟨bi, bf⟩ := B
        simp only at *
        have hA0 : 0 ≤ bf + a := by omega
        have hA1 : bf + a + (l.length : Int) ≤ 4294967296 := by omega
        have hA2 : bf + a + (l.length : Int) ≤ ob.size := by omega
        generalize bf + a = A at *
        have HT := Lib.hid (fun (w1 : World) => touched_calls (w := w1) A (l.length : Int) hA0 (by omega) (by omega) (by omega))
        have hnp : (touched A l.length).length ≤ 1099511627776 := by rw [touched_len]; unfold npages; split <;> omega
        have HC := Lib.hid (fun (w1 : World) (v : Value) (n : Nat) (hN : NewInts (w.drewN n) (touched A l.length) v w1) =>
          vcommit_calls (R.mods (((Mods.refl (fun _ => False) w).drewN n).trans hN.2.2 (fun _ h => h.elim)) (fun _ _ h => h)) b1 b2 (list := touched A l.length) (v := v) (IntsAt.ofRow hN.1 (by unfold maxLen; omega)) hnp
            (fun k hk => by
              have h1 := hN.2.1 k hk
              have h3 : k < w1.heap.size := by obtain ⟨cur, hc⟩ := hN.1.block hk; exact hp_lt hc
              have h1 : w.heap.size ≤ k := h1
              refine ⟨fun h => ?_, fun h => ?_, h3⟩
              · have := R.pool.lt k h; omega
              · have := R.lt k h; omega)
            (G.pools' b1))
        have hbl := hp_lt (R.hdr _ (G.mem b1))
        have hcs := G.commit b1 b2 (list := touched A l.length) (fun p hp => by have := mem_touched hp (by omega); omega)
        have HB1 := Lib.hid b1
        have HB2 := Lib.hid b2
        clear h R G hre hin hat hdr hin' b1 b2 b3 b4 b5 hob hbl hnp hvo hA2
        rcases hcs with ⟨_, hc⟩ | ⟨_, q, fr, hc, _⟩
        · have H := Lib.hid (show S.write id a l = (S, -4) by rw [hW, hc]; simp)
          unfold CommitPost at HC
          rw [hc] at HC
          clear hc hW
          go_enter Try.func15, Try.ntmps15
          go_wp2_with (first
            | (go_at_call 40; refine HF.out.mono ?_; rintro e w' ⟨rfl, rfl⟩)
            | (go_at_call 41; refine HRe.out.mono ?_; rintro e w' ⟨rfl, k, rfl⟩)
            | (go_at_call 43; refine (HT.out _).mono ?_; rintro e w1 ⟨v1, rfl, hN⟩; have HN := Lib.hid hN; clear hN)
            | (go_at_call 42; refine (HC.out _ _ _ HN.out).mono ?_; rintro e w2 ⟨rfl, hK⟩; have HK := Lib.hid hK; clear hK))
          go_ret
          unfold WritePost
          rw [H.out]
          exact ⟨rfl, VKeep.trans (HR.out.mods (((Mods.refl (fun _ => False) w').drewN k).trans HN.out.2.2 (fun _ h => h.elim)) (fun _ _ h => h)) ((((Mods.refl (fun _ => False) w').drewN k).trans HN.out.2.2 (fun _ h => h.elim)).mono (fun _ h => h.elim)) (fun _ h => .inl h) HK.out⟩
        · have H := Lib.hid (show S.write id a l = ({ S.with bi ob (q, fr) with pool := putAll q fr A l }, 0) by
            rw [hW, hc]
            simp only [ne_eq, not_true_eq_false, if_false]
            rw [Vset.with_at]
            rfl)
          unfold CommitPost at HC
          rw [hc] at HC
          have HP := Lib.hid (fun (w2 : World) (pv2 : Value) (pf2 : Nat → Prop) (R2 : VRep w2 Y (S.with bi ob (q, fr)) pv2 pf2) (hb : BytesAt w2 (.slice va l.length vc) l) (hvo : ∀ k, Live (.slice va l.length vc) l k → ¬ pf2 k ∧ ¬ Y.of k ∧ k < w2.heap.size) =>
            vput_calls R2 (Vset.with_at S bi ob (q, fr)) (by exact HB2.out) hb (by omega) hA0 (by omega) hvo)
          clear hc hW
          go_enter Try.func15, Try.ntmps15
          go_wp2_with (first
            | (go_at_call 40; refine HF.out.mono ?_; rintro e w' ⟨rfl, rfl⟩)
            | (go_at_call 41; refine HRe.out.mono ?_; rintro e w' ⟨rfl, k, rfl⟩)
            | (go_at_call 43; refine (HT.out _).mono ?_; rintro e w1 ⟨v1, rfl, hN⟩; have HN := Lib.hid hN; clear hN)
            | (go_at_call 42; refine (HC.out _ _ _ HN.out).mono ?_; rintro e w2 ⟨rfl, pv2, pf2, hR2, hM2, hf2⟩; have HR2 := Lib.hid hR2; have HM2 := Lib.hid hM2; have Hf2 := Lib.hid hf2; clear hR2 hM2 hf2
               have HM1 := Lib.hid (((Mods.refl (fun _ => False) w').drewN k).trans HN.out.2.2 (fun _ h => h.elim))
               have Hbv := Lib.hid ((Hv.out.mods HM1.out (fun _ _ h => h)).mods HM2.out (fun k hk h => by
                 have := Hvo.out k hk
                 rcases h with h | h
                 · exact this.1 h
                 · exact this.2.1 h)))
            | (go_at_call 44; refine (HP.out _ _ _ HR2.out Hbv.out (fun k hk => by
                 have h1 := Hvo.out k hk
                 have h2 := HM1.out.size
                 have h3 := HM2.out.size
                 refine ⟨fun h => ?_, h1.2.1, by omega⟩
                 rcases Hf2.out k h with h | h
                 · exact h1.1 h
                 · omega)).mono ?_; rintro e w3 ⟨rfl, hK⟩; have HK := Lib.hid hK; clear hK))
          go_ret
          unfold WritePost
          rw [H.out]
          exact ⟨rfl, VKeep.trans (HR.out.mods HM1.out (fun _ _ h => h)) (HM1.out.mono (fun _ h => h.elim)) (fun _ h => .inl h) (VKeep.trans HR2.out HM2.out Hf2.out HK.out)⟩
end
end Go.Proofs.Ytkifgoadbnpofaa
