/- Walks of layer 8: commit. -/
import Derived.Test.YtkifgoadbnpofaaVmoD
namespace Go.Proofs.Ytkifgoadbnpofaa
open Go Go.RowKit
set_option maxRecDepth 100000

theorem put_put {α : Type} (L : List (Int × α)) (k : Int) (a b : α) : put (put L k a) k b = put L k b := by
  induction L with
  | nil => simp [put]
  | cons p L ih =>
    obtain ⟨x, u⟩ := p
    by_cases h : x = k
    · simp [put, h]
    · simp [put, h, ih]
/-- The set with other frames of id, and another pool. -/
def Vset.with (S : Vset) (id : Int) (o : Vobj) (st : Pool × List (Int × Int)) : Vset := { S with pool := st.1 }.set id { o with frames := st.2 }
theorem Vset.with_at (S : Vset) (id : Int) (o : Vobj) (st : Pool × List (Int × Int)) : (S.with id o st).at_ id = some { o with frames := st.2 } := by
  show get (put S.objs id _) id = _
  rw [get_put, if_pos rfl]
theorem Vset.with_with (S : Vset) (id : Int) (o : Vobj) (st : Pool × List (Int × Int)) (q : Pool) (fr : List (Int × Int)) :
    ({ S.with id o st with pool := q } : Vset).set id { o with frames := fr } = S.with id o (q, fr) := by
  simp [Vset.with, Vset.set, put_put]
theorem Vset.with_self {S : Vset} {id : Int} {o : Vobj} (hg : S.at_ id = some o) : S.with id o (S.pool, o.frames) = S := by
  have : put S.objs id o = S.objs := put_same hg
  simp [Vset.with, Vset.set, this]

section
variable {w : World} {Y : Lay} {S : Vset} {pv : Value} {pf : Nat → Prop}
def CommitPost (Y : Lay) (S : Vset) (id : Int) (list : List Int) (pf : Nat → Prop) (w : World) (e : Ending) (w' : World) : Prop :=
  e = .returned (i64 (S.commit id list).2) ∧ VKeep Y (S.commit id list).1 pf w w'
set_option maxHeartbeats 2000000 in
theorem vcommit_calls (R : VRep w Y S pv pf) {id : Int} {o : Vobj} (hg : S.at_ id = some o) (hsl : o.slice = false) {v : Value} {list : List Int} (hv : IntsAt w v list) (hln : list.length ≤ 1099511627776)
    (hvo : ∀ k, v.ownBlock = some k → ¬ pf k ∧ ¬ Y.of k ∧ k < w.heap.size)
    (hpl : ¬ wrap64 (S.pool.cap - S.pool.used) < (list.countP (needs S.pool o.frames) : Nat) → ∀ k, k ≤ list.length → ((list.take k).foldl commit1 (S.pool, o.frames)).1.frames.length ≤ 65536) :
    Calls Try.prog 42 #[ptr Y.s, ptr (Y.blk id), v] w (CommitPost Y S id list pf w) := by
  have hm := get_mem hg
  have hh := R.hdr _ hm
  have c0 : w.cell? ⟨Y.s, 0, none⟩ = some (ptr Y.pb) := (cell_of (o := 0) R.top).trans rfl
  have c2 : w.cell? ⟨Y.blk id, 2, none⟩ = some (.map (some (Y.mb id))) := (cell_of (o := 2) hh).trans (by simp [ocells, framesV, hsl])
  have hF := R.frs _ hm hsl
  simp only at hF
  have hl := looksF (Y.mb id) (encI o.frames)
  have Hk := Lib.hid (encI_get o.frames)
  have HR := Lib.hid R
  have Hg := Lib.hid hg
  have Hsl := Lib.hid hsl
  have HU := Lib.hid (fun f => pusers_calls R.pool f)
  have HRo := Lib.hid (proom_calls R.pool)
  have Hv := Lib.hid hv
  have Hvo := Lib.hid hvo
  have Hpl := Lib.hid hpl
  have Hcm := Lib.hid (show S.commit id list = if wrap64 (S.pool.cap - S.pool.used) < (list.countP (needs S.pool o.frames) : Nat) then (S, -4) else (S.with id o (list.foldl commit1 (S.pool, o.frames)), 0) by
    simp [Vset.commit, hg, Vset.with])
  obtain ⟨a, c, rfl, hmax, hr⟩ := hv
  generalize hFF : encI o.frames = F at hF hl Hk
  have HFF := Lib.hid hFF
  have Hr := Lib.hid hr
  clear R hm hh hg hsl hpl hvo hFF hr hmax
  go_enter Try.func42, Try.ntmps42
  go_wp2
  go_loopg [7, 18] list.length (fun g v7 i wr => ∃ k : Nat, k ≤ list.length ∧ i = .int .i64 k ∧ list.length - k = g ∧ v7 = .int .i64 (((list.take k).countP (needs S.pool o.frames) : Nat) : Int) ∧ wr = w)
  case atStart => exact ⟨0, by omega, rfl, rfl, by simp, rfl⟩
  case round =>
    obtain ⟨k, hkl, rfl, rfl, rfl, hww⟩ := hrel
    have hww' := hww.symm
    clear hww
    subst hww'
    by_cases hlt : k < list.length
    · obtain ⟨vb, voff, rfl, hvlt, hvc⟩ := Hr.out (by omega)
      have hce := hvc k hlt
      have hcl : (list.take k).countP (needs S.pool o.frames) ≤ list.length := Nat.le_trans List.countP_le_length (by rw [List.length_take]; omega)
      have Hst := Lib.hid (show (list.take (k + 1)).countP (needs S.pool o.frames) = (list.take k).countP (needs S.pool o.frames) + (if needs S.pool o.frames (nth list k) then 1 else 0) by
        rw [take_nth hlt, List.countP_append]; simp [List.countP_cons])
      have hk := Hk.out (nth list k)
      clear hvc hvlt
      generalize nth list k = p at *
      generalize (list.take k).countP (needs S.pool o.frames) = cnt at *
      cases hp : get o.frames p with
      | none =>
        have Hn := Lib.hid (show needs S.pool o.frames p = true by simp [needs, hp])
        rw [hp] at hk
        clear hp
        go_wp2
        go_roundg (list.length - (k + 1))
        case measure => omega
        case rel => exact ⟨k + 1, by omega, by go_num, rfl, by rw [Hst.out, Hn.out]; go_num, rfl⟩
      | some f =>
        rw [hp] at hk
        cases hu : decide (1 < S.pool.users f) with
        | true =>
          have Hn := Lib.hid (show needs S.pool o.frames p = true by simp only [needs, hp]; exact hu)
          clear hp
          go_wp2_with (go_at_call 66; refine (HU.out _).mono ?_; rintro e w' ⟨rfl, rfl⟩)
          go_roundg (list.length - (k + 1))
          case measure => omega
          case rel => exact ⟨k + 1, by omega, by go_num, rfl, by rw [Hst.out, Hn.out]; go_num, rfl⟩
        | false =>
          have Hn := Lib.hid (show needs S.pool o.frames p = false by simp only [needs, hp]; exact hu)
          clear hp
          go_wp2_with (go_at_call 66; refine (HU.out _).mono ?_; rintro e w' ⟨rfl, rfl⟩)
          go_roundg (list.length - (k + 1))
          case measure => omega
          case rel => exact ⟨k + 1, by omega, by go_num, rfl, by rw [Hst.out, Hn.out]; go_num, rfl⟩
    · have hkN : k = list.length := by omega
      subst hkN
      have hcnt : (list.take list.length).countP (needs S.pool o.frames) = list.countP (needs S.pool o.frames) := by rw [List.take_length]
      rw [hcnt]
      clear hcnt hlt hkl
      by_cases hroom : wrap64 (S.pool.cap - S.pool.used) < (list.countP (needs S.pool o.frames) : Nat)
      · have H := Lib.hid (show S.commit id list = (S, -4) by rw [Hcm.out, if_pos hroom])
        generalize list.countP (needs S.pool o.frames) = cnt at *
        generalize wrap64 (S.pool.cap - S.pool.used) = room at *
        go_wp2_with (go_at_call 50; refine HRo.out.mono ?_; rintro e w' ⟨rfl, n, rfl⟩)
        go_ret
        unfold CommitPost
        rw [H.out]
        exact ⟨rfl, pv, pf, HR.out.keep (by simp) (fun _ _ => rfl), (Mods.refl _ _).drewN n, fun _ h => .inl h⟩
      · have H := Lib.hid (show S.commit id list = (S.with id o (list.foldl commit1 (S.pool, o.frames)), 0) by rw [Hcm.out, if_neg hroom])
        have Hplr := Lib.hid (Hpl.out (by omega))
        have hrb : decide (wrap64 (S.pool.cap - S.pool.used) < ((list.countP (needs S.pool o.frames) : Nat) : Int)) = false := by simpa using hroom
        generalize list.countP (needs S.pool o.frames) = cnt at *
        generalize wrap64 (S.pool.cap - S.pool.used) = room at *
        clear hroom
        go_wp2_with (go_at_call 50; refine HRo.out.mono ?_; rintro e w' ⟨rfl, n, rfl⟩)
        clear hl c0 c2 hF hrb
        go_loopg [54] list.length (fun g i wr => ∃ k : Nat, k ≤ list.length ∧ i = .int .i64 k ∧ list.length - k = g ∧ VKeep Y (S.with id o ((list.take k).foldl commit1 (S.pool, o.frames))) pf w wr)
        case atStart =>
          refine ⟨0, by omega, rfl, rfl, ?_⟩
          rw [show (list.take 0).foldl commit1 (S.pool, o.frames) = (S.pool, o.frames) from rfl, Vset.with_self Hg.out]
          exact ⟨pv, pf, HR.out.keep (by simp) (fun _ _ => rfl), (Mods.refl _ _).drewN n, fun _ h => .inl h⟩
        case round =>
          obtain ⟨k, hkl, rfl, rfl, pv1, pf1, hR1, hM1, hf1⟩ := hrel
          have HR1 := Lib.hid hR1
          have HM1 := Lib.hid hM1
          have Hf1 := Lib.hid hf1
          clear hR1 hM1 hf1
          by_cases hlt : k < list.length
          · have Hst := Lib.hid (show (list.take (k + 1)).foldl commit1 (S.pool, o.frames) = commit1 ((list.take k).foldl commit1 (S.pool, o.frames)) (nth list k) by
              rw [take_nth hlt, List.foldl_append]; rfl)
            have Hpk := Lib.hid (Hplr.out k (by omega))
            generalize (list.take k).foldl commit1 (S.pool, o.frames) = st at *
            have Hat := Lib.hid (Vset.with_at S id o st)
            have hv1 : IntsAt wr (.slice a list.length c) list := Hv.out.of HM1.out.size (fun j hj hj2 => HM1.out.block j hj2 (by rintro (h | h); exact (Hvo.out j hj).1 h; exact (Hvo.out j hj).2.1 h))
            obtain ⟨a', c', he, _, hr'⟩ := hv1
            cases he
            obtain ⟨vb, voff, rfl, hvlt, hvc⟩ := hr' (by omega)
            have hce := hvc k hlt
            clear hvc hvlt hr'
            have hm := get_mem Hat.out
            have hh := HR1.out.hdr _ hm
            have c0 : wr.cell? ⟨Y.s, 0, none⟩ = some (ptr Y.pb) := (cell_of (o := 0) HR1.out.top).trans rfl
            have c2 : wr.cell? ⟨Y.blk id, 2, none⟩ = some (.map (some (Y.mb id))) := (cell_of (o := 2) hh).trans (by simp [ocells, framesV, Hsl.out])
            have hF := HR1.out.frs _ hm Hsl.out
            simp only at hF
            have hl := looksF (Y.mb id) (encI st.2)
            have hup := updatesF (Y.mb id) (encI st.2)
            have hk := encI_get st.2 (nth list k)
            have hbl := hp_lt hh
            have hml := hF.lt
            have hnb : ¬ pf1 (Y.blk id) := fun h => HR1.out.sep _ h (HR1.out.fh _ hm)
            have hnm : ¬ pf1 (Y.mb id) := fun h => HR1.out.sep _ h (HR1.out.ff _ hm Hsl.out)
            have Hofm := Lib.hid (HR1.out.ff _ hm Hsl.out)
            have HOwn := Lib.hid (fun f => pown_calls HR1.out.pool (show (S.with id o st).pool.frames.length ≤ 65536 from Hpk.out) f)
            have HAll := Lib.hid (palloc_calls HR1.out.pool (show (S.with id o st).pool.frames.length ≤ 65536 from Hpk.out))
            have Hend := Lib.hid (fun (q : Pool) (f : Int) (w2 : World) (pv2 : Value) (pf2 : Nat → Prop) (hP : PRep w2 Y.pb q pv2 pf2) (hM : Mods pf1 wr w2) (hf : ∀ k, pf2 k → pf1 k ∨ wr.heap.size ≤ k) =>
              (show VKeep Y (S.with id o (q, put st.2 (nth list k) f)) pf w (mPut w2 (Y.mb id) (nth list k) (i64 f)) from
                ⟨pv2, pf2, by
                  have := (HR1.out.pooled hP hM hf).putFrame (S := { S.with id o st with pool := q }) (id := id) (o := { o with frames := st.2 }) Hat.out Hsl.out (nth list k) f
                  rw [Vset.with_with] at this
                  exact this, (HM1.out.trans hM (fun i hi => by rcases Hf1.out i hi with h | h; exact .inl (.inl h); exact .inr h)).mPut (.inl (.inr Hofm.out)) _ _, fun i hi => by
                  rcases hf i hi with h | h
                  · exact Hf1.out i h
                  · exact .inr (Nat.le_trans HM1.out.size h)⟩))
            clear hm hh
            generalize encI st.2 = F' at hF hl hup hk
            generalize nth list k = p at *
            cases hp : get st.2 p with
            | none =>
              have Hc1 := Lib.hid (show commit1 st p = (st.1.alloc.1, put st.2 p st.1.alloc.2.1) by simp [commit1, hp])
              rw [hp] at hk
              clear hp
              go_wp2_with (go_at_call 68; refine HAll.out.mono ?_; rintro e w2 ⟨rfl, pv2, pf2, hP2, hM2, hf2⟩; have HP2 := Lib.hid hP2; have HM2 := Lib.hid hM2; have Hf2 := Lib.hid hf2; have c2' := (hM2.cell (p := ⟨Y.blk id, 2, none⟩) hbl hnb).trans c2; have hF' := hF.of_block (hM2.block _ hml hnm); clear hP2 hM2 hf2)
              go_roundg (list.length - (k + 1))
              case measure => omega
              case rel => exact ⟨k + 1, by omega, by go_num, rfl, by rw [Hst.out, Hc1.out]; exact Hend.out _ _ _ _ _ HP2.out HM2.out Hf2.out⟩
            | some f =>
              have Hc1 := Lib.hid (show commit1 st p = ((st.1.own f).1, put st.2 p (st.1.own f).2.1) by simp [commit1, hp])
              rw [hp] at hk
              clear hp
              go_wp2_with (go_at_call 67; refine (HOwn.out _).mono ?_; rintro e w2 ⟨rfl, pv2, pf2, hP2, hM2, hf2⟩; have HP2 := Lib.hid hP2; have HM2 := Lib.hid hM2; have Hf2 := Lib.hid hf2; have c2' := (hM2.cell (p := ⟨Y.blk id, 2, none⟩) hbl hnb).trans c2; have hF' := hF.of_block (hM2.block _ hml hnm); clear hP2 hM2 hf2)
              go_roundg (list.length - (k + 1))
              case measure => omega
              case rel => exact ⟨k + 1, by omega, by go_num, rfl, by rw [Hst.out, Hc1.out]; exact Hend.out _ _ _ _ _ HP2.out HM2.out Hf2.out⟩
          · have hkN : k = list.length := by omega
            subst hkN
            have HE := Lib.hid (show VKeep Y (S.with id o (list.foldl commit1 (S.pool, o.frames))) pf w wr by
              have := HR1.out
              rw [List.take_length] at this
              exact ⟨pv1, pf1, this, HM1.out, Hf1.out⟩)
            go_wp2
            go_ret
            unfold CommitPost
            rw [H.out]
            exact ⟨rfl, HE.out⟩
end
end Go.Proofs.Ytkifgoadbnpofaa
