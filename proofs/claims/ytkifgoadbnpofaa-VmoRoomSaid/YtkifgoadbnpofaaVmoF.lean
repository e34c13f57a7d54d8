/- Walks of layer 8: put. -/
import Derived.Test.YtkifgoadbnpofaaVmoE
namespace Go.Proofs.Ytkifgoadbnpofaa
open Go Go.RowKit
set_option maxRecDepth 100000

theorem putBytes_fuel (fr : List (Int × Int)) : ∀ (n m : Nat) (q : Pool) (a : Int) (l : List Int), 0 ≤ a → l.length < n → l.length < m → putBytes q fr n a l = putBytes q fr m a l
  | 0, _, _, _, _, _, h, _ => by omega
  | _, 0, _, _, _, _, _, h => by omega
  | n + 1, m + 1, q, a, l, h0, h1, h2 => by
    unfold putBytes
    split
    · rfl
    · rename_i hl
      have hk : 1 ≤ (min (l.length : Int) (64 - a % 64)).toNat := by omega
      exact putBytes_fuel fr n m _ _ _ (by omega) (by rw [List.length_drop]; omega) (by rw [List.length_drop]; omega)
def putAll (q : Pool) (fr : List (Int × Int)) (a : Int) (l : List Int) : Pool := putBytes q fr (l.length + 1) a l
theorem putAll_nil (q : Pool) (fr : List (Int × Int)) (a : Int) : putAll q fr a [] = q := rfl
theorem putAll_step (q : Pool) (fr : List (Int × Int)) {a : Int} {l : List Int} {k : Nat} (h0 : 0 ≤ a) (hl : 0 < l.length) (hk : (k : Int) = min (l.length : Int) (64 - a % 64)) :
    putAll q fr a l = putAll (q.write ((get fr (a / 64)).getD 0) (a % 64) (l.take k)).1 fr (a + k) (l.drop k) := by
  unfold putAll
  conv => lhs; unfold putBytes
  rw [if_neg (by omega)]
  simp only [← hk, Int.toNat_natCast]
  exact putBytes_fuel fr _ _ _ _ _ (by omega) (by rw [List.length_drop]; omega) (by omega)

section
variable {w : World} {Y : Lay} {S : Vset} {pv : Value} {pf : Nat → Prop}
set_option maxHeartbeats 2000000 in
theorem vput_calls (R : VRep w Y S pv pf) {id : Int} {o : Vobj} (hg : S.at_ id = some o) (hsl : o.slice = false) {v : Value} {l : List Int} {a : Int} (hv : BytesAt w v l) (hln : l.length ≤ 1099511627776)
    (ha0 : 0 ≤ a) (ha1 : a ≤ 1099511627776) (hvo : ∀ k, Live v l k → ¬ pf k ∧ ¬ Y.of k ∧ k < w.heap.size) :
    Calls Try.prog 44 #[ptr Y.s, ptr (Y.blk id), i64 a, v] w fun e w' => e = .returned (.tuple #[]) ∧ VKeep Y { S with pool := putAll S.pool o.frames a l } pf w w' := by
  have HR := Lib.hid R
  have Hg := Lib.hid hg
  have Hsl := Lib.hid hsl
  have Hv := Lib.hid hv
  have Hvo := Lib.hid hvo
  generalize hall : putAll S.pool o.frames a l = all
  have Hall := Lib.hid hall
  clear R hg hsl hv hvo hall
  go_enter Try.func44, Try.ntmps44
  go_wp2
  go_loopg [2, 3] l.length (fun g a2 v3 wr => ∃ (q : Pool) (a' : Int) (l' : List Int), l'.length = g ∧ l'.length ≤ l.length ∧ a2 = .int .i64 a' ∧ 0 ≤ a' ∧ a' + l'.length ≤ a + l.length ∧ BytesAt wr v3 l' ∧ v3.ownBlock = v.ownBlock ∧ putAll q o.frames a' l' = all ∧ VKeep Y { S with pool := q } pf w wr)
  case atStart => exact ⟨S.pool, a, l, rfl, Nat.le_refl _, rfl, ha0, by omega, Hv.out, rfl, Hall.out, VKeep.refl HR.out⟩
  case round =>
    obtain ⟨q, a', l', rfl, hll, rfl, h0, h1, hb, hob, hq, pv1, pf1, hR1, hM1, hf1⟩ := hrel
    have HR1 := Lib.hid hR1
    have HM1 := Lib.hid hM1
    have Hf1 := Lib.hid hf1
    have Hb := Lib.hid hb
    have Hob := Lib.hid hob
    have Hq := Lib.hid hq
    obtain ⟨va, vc, rfl, hvc, hvm, _⟩ := hb
    clear hR1 hM1 hf1 hob hq
    by_cases hlt : 0 < l'.length
    · obtain ⟨K, hK⟩ : ∃ K : Nat, (K : Int) = min (l'.length : Int) (64 - a' % 64) := ⟨(min (l'.length : Int) (64 - a' % 64)).toNat, by omega⟩
      have hm0 : 0 ≤ a' % 64 := by omega
      have hm1 : a' % 64 < 64 := by omega
      have hKl : K ≤ l'.length := by omega
      have hK1 : 0 < K := by omega
      clear hvc
      have hm := get_mem Hg.out
      have hh := HR1.out.hdr _ hm
      have c0 : wr.cell? ⟨Y.s, 0, none⟩ = some (ptr Y.pb) := (cell_of (o := 0) HR1.out.top).trans rfl
      have c2 : wr.cell? ⟨Y.blk id, 2, none⟩ = some (.map (some (Y.mb id))) := (cell_of (o := 2) hh).trans (by simp [ocells, framesV, Hsl.out])
      have hF := HR1.out.frs _ hm Hsl.out
      simp only at hF
      have hl := lookupsF (Y.mb id) (encI o.frames)
      have hk : (get (encI o.frames) (a' / 64)).getD (.int .i64 0) = .int .i64 ((get o.frames (a' / 64)).getD 0) := by
        rw [encI_get]; cases get o.frames (a' / 64) <;> rfl
      obtain ⟨vh, hhd, hbh, hoh⟩ := Hb.out.head hKl
      obtain ⟨vt, htl, hbt, hot⟩ := Hb.out.tail hKl
      have Hbt := Lib.hid hbt
      have Hot := Lib.hid hot
      have Hst := Lib.hid (putAll_step q o.frames h0 hlt hK)
      have hvn : ∀ k, v.ownBlock = some k → ¬ pf1 k := fun k hk h => by
        have h3 := Hvo.out k ⟨by omega, hk⟩
        rcases Hf1.out k h with h4 | h4
        · exact h3.1 h4
        · omega
      have Hvn := Lib.hid hvn
      have HD := Lib.hid (show VRep wr.drew Y { S with pool := q } pv1 pf1 from HR1.out.keep (Nat.le_refl _) (fun _ _ => rfl))
      have Hbd := Lib.hid (show BytesAt wr.drew vh (l'.take K) from hbh)
      have HW := Lib.hid (pwrite_calls HD.out.pool ((get o.frames (a' / 64)).getD 0) (a' % 64) Hbd.out)
      have HlenD := Lib.hid (show (l'.drop K).length = l'.length - K from List.length_drop)
      have Hend := Lib.hid (fun (q2 : Pool) (w2 : World) (pv2 : Value) (pf2 : Nat → Prop) (hP : PRep w2 Y.pb q2 pv2 pf2) (hM : Mods pf1 wr.drew w2) (hf : ∀ k, pf2 k → pf1 k ∨ wr.drew.heap.size ≤ k) =>
        (show VKeep Y { S with pool := q2 } pf w w2 ∧ BytesAt w2 vt (l'.drop K) from
          ⟨⟨pv2, pf2, HD.out.pooled hP hM hf, HM1.out.drew.trans hM (fun i hi => by rcases Hf1.out i hi with h | h; exact .inl (.inl h); exact .inr h), fun i hi => by
              rcases hf i hi with h | h
              · exact Hf1.out i h
              · exact .inr (Nat.le_trans HM1.out.size h)⟩, (show BytesAt wr.drew vt _ from Hbt.out).mods hM (fun k hk => Hvn.out k (by rw [← Hob.out, ← Hot.out]; exact hk.2))⟩))
      have Hdv := Lib.hid (show IntKind.i64.wrap (a'.tdiv 64) = a' / 64 by rw [Int.tdiv_eq_ediv_of_nonneg h0]; exact IntWalk.i64_in _ (by omega))
      clear hm hh hbh hbt hoh hot hvn
      generalize hff : (get o.frames (a' / 64)).getD 0 = f at *
      generalize encI o.frames = F at *
      generalize hlh : l'.take K = lh at *
      generalize hlt' : l'.drop K = lt at *
      clear hff hlh hlt'
      by_cases hle : (l'.length : Int) ≤ 64 - a' % 64
      · have hKe : K = l'.length := by omega
        have HKe := Lib.hid hKe
        subst hKe
        clear hK hKl
        go_wp2
        have hdv := Hdv.out
        go_still_tail 15, (by kernel_rfl)
        clear hdv
        try change wpList _ _ _ _ _ wr.drew
        go_wp2_with (go_at_call 70; refine HW.out.mono ?_; rintro e w2 ⟨rfl, pv2, pf2, hP2, hM2, hf2⟩; have HP2 := Lib.hid hP2; have HM2 := Lib.hid hM2; have Hf2 := Lib.hid hf2; clear hP2 hM2 hf2)
        go_roundg lt.length
        case measure => rw [HlenD.out]; omega
        case rel =>
          obtain ⟨k1, k2⟩ := Hend.out _ _ _ _ HP2.out HM2.out Hf2.out
          exact ⟨_, a' + (l'.length : Int), lt, rfl, by rw [HlenD.out]; omega, by go_num, by omega, by rw [HlenD.out]; omega, k2, by rw [Hot.out, Hob.out], by rw [← Hst.out]; exact Hq.out, k1⟩
      · have hKe : (K : Int) = 64 - a' % 64 := by omega
        rw [hKe] at hhd htl Hst
        have hlb : decide ((l'.length : Int) ≤ 64 - a' % 64) = false := by simpa using hle
        clear hK
        go_wp2
        have hdv := Hdv.out
        go_still_tail 15, (by kernel_rfl)
        clear hdv
        try change wpList _ _ _ _ _ wr.drew
        go_wp2_with (go_at_call 70; refine HW.out.mono ?_; rintro e w2 ⟨rfl, pv2, pf2, hP2, hM2, hf2⟩; have HP2 := Lib.hid hP2; have HM2 := Lib.hid hM2; have Hf2 := Lib.hid hf2; clear hP2 hM2 hf2)
        go_roundg lt.length
        case measure => rw [HlenD.out]; omega
        case rel =>
          obtain ⟨k1, k2⟩ := Hend.out _ _ _ _ HP2.out HM2.out Hf2.out
          exact ⟨_, a' + (64 - a' % 64), lt, rfl, by rw [HlenD.out]; omega, by go_num, by omega, by rw [HlenD.out]; omega, k2, by rw [Hot.out, Hob.out], by rw [← Hst.out]; exact Hq.out, k1⟩
    · have hl0 : l' = [] := List.eq_nil_of_length_eq_zero (by omega)
      have He := Lib.hid (show q = all by rw [← Hq.out, hl0]; exact (putAll_nil _ _ _).symm)
      go_wp2
      go_end0
      refine ⟨rfl, ?_⟩
      rw [← He.out]
      exact ⟨pv1, pf1, HR1.out, HM1.out, Hf1.out⟩
end
end Go.Proofs.Ytkifgoadbnpofaa
