/- Walks of layer 7: New, Read, Write. -/
import Derived.Test.YtkifgoadbnpofaaPoolD
namespace Go.Proofs.Ytkifgoadbnpofaa
open Go Go.RowKit
set_option maxRecDepth 100000

namespace Pool
def read (p : Pool) (f a n : Int) : List Int × Int := match p.at_ f with
  | none => ([], -25)
  | some x => if inside a n 64 then ((x.data.drop a.toNat).take n.toNat, 0) else ([], -14)
def write (p : Pool) (f a : Int) (l : List Int) : Pool × Int := match p.at_ f with
  | none => (p, -25)
  | some x => if inside a l.length 64 then if 1 < x.users then (p, -20) else (p.set f { x with data := x.data.take a.toNat ++ l ++ x.data.drop (a.toNat + l.length) }, 0) else (p, -14)
end Pool
def BytesPost (w : World) (l : List Int) (s : Int) (e : Ending) (w' : World) : Prop := ∃ v, e = .returned (.tuple #[v, i64 s]) ∧ NewBytes w l v w'

def offAt (q A : Nat) : Nat := if 64 = A then q else q + A
theorem page_cut (W : World) (g q A K : Nat) (h : A + K ≤ 64) :
    (Instr.sliceAt 119 (.pointer (some ⟨g, q, none⟩)) (some (.int .i64 A)) (some (.int .i64 (A + K))) none).run Try.prog W = .ok (.slice (some ⟨g, offAt q A, none⟩) K (64 - A)) W := by
  have e : ((A : Int) + K).toNat = A + K := by omega
  simp only [Instr.sliceAt, Sem.run_bind, run_underlying Try.underlying119, Result.andThen, Instr.sureAddr, Sem.run_pure, Instr.sliceBounds, Instr.sliceBound, asIntOf]
  rw [if_pos (by omega)]
  simp only [Sem.run_pure, e]
  rw [if_pos (by omega)]
  simp only [Sem.run_pure, Try.sizeOf5, Int.toNat_natCast, Nat.mul_one, add_lit', Nat.add_sub_cancel_left]
  unfold offAt
  split <;> rfl
theorem page_from (W : World) (g q A : Nat) (h : A ≤ 64) :
    (Instr.sliceAt 119 (.pointer (some ⟨g, q, none⟩)) (some (.int .i64 A)) none none).run Try.prog W = .ok (.slice (some ⟨g, offAt q A, none⟩) (64 - A) (64 - A)) W := by
  simp only [Instr.sliceAt, Sem.run_bind, run_underlying Try.underlying119, Result.andThen, Instr.sureAddr, Sem.run_pure, Instr.sliceBounds, Instr.sliceBound, asIntOf]
  rw [if_pos (by omega)]
  simp only [Sem.run_pure, Try.sizeOf5, Int.toNat_natCast, Nat.mul_one, add_lit']
  unfold offAt
  split <;> rfl

section
variable {w : World} {b : Nat} {p : Pool} {v : Value} {fp : Nat → Prop}
theorem pnew_bad {n : Int} (h : n < 0 ∨ 65536 < n) : Calls Try.prog 37 #[i64 n] w fun e w' => e = .returned (.pointer none) ∧ w' = w := by
  by_cases h0 : n < 0
  · go_enter Try.func37, Try.ntmps37
    go_wp2
    go_ret
    exact ⟨rfl, rfl⟩
  · have h1 : 65536 < n := by omega
    clear h
    go_enter Try.func37, Try.ntmps37
    go_wp2
    go_ret
    exact ⟨rfl, rfl⟩
theorem pnew_calls {n : Int} (h0 : 0 ≤ n) (h1 : n ≤ 65536) : Calls Try.prog 37 #[i64 n] w fun e w' => e = .returned (ptr w.heap.size) ∧ PRep w' w.heap.size ⟨[], n, 0⟩ (.slice none 0 0) (fun k => k = w.heap.size) ∧ Mods (fun _ => False) w w' := by
  go_enter Try.func37, Try.ntmps37
  go_wp2
  go_ret
  refine ⟨rfl, ⟨hp_alloc_new w _, Row.nil _ _ _, by simp, rfl, (fun k hk => by cases hk), (fun k hk => by subst hk; simp)⟩, (Mods.refl _ _).alloc _⟩

set_option maxHeartbeats 1000000 in
theorem pread_calls (R : PRep w b p v fp) (f a n : Int) : Calls Try.prog 45 #[ptr b, i64 f, i64 a, i64 n] w (BytesPost w (p.read f a n).1 (p.read f a n).2) := by
  have HF := Lib.hid (pfind_calls R f)
  cases h : p.at_ f with
  | none =>
    have H := Lib.hid (show p.read f a n = ([], -25) by simp [Pool.read, h])
    rw [show p.ptr v f = .pointer none by simp [Pool.ptr, h]] at HF
    clear h R
    go_enter Try.func45, Try.ntmps45
    go_wp2_with (go_at_call 71; refine HF.out.mono ?_; rintro e w' ⟨rfl, rfl⟩)
    go_ret2
    rw [H.out]; exact ⟨_, rfl, Row.nil _ _ _, (fun k h => by cases h), Mods.refl _ _⟩
  | some x =>
    obtain ⟨g, off, cap, rfl, hr, ht⟩ := R.frame h
    have hl := R.wf x (List.mem_of_getElem? (Pool.at_some h).2.1)
    rw [show p.ptr _ f = .pointer (some ⟨g, off + f.toNat * 65, none⟩) by simp [Pool.ptr, h, add_lit']] at HF
    have HW := Lib.hid (within_calls (w := w) a n 64 (by omega) (by omega))
    have Hglt := Lib.hid (R.lt g (R.fv g rfl))
    cases hin : inside a n 64 with
    | false =>
      have H := Lib.hid (show p.read f a n = ([], -14) by simp [Pool.read, h, hin])
      rw [hin] at HW
      clear h R hr ht hl hin
      generalize off + f.toNat * 65 = q at *
      go_enter Try.func45, Try.ntmps45
      go_wp2_with (first
        | (go_at_call 71; refine HF.out.mono ?_; rintro e w' ⟨rfl, rfl⟩)
        | (go_at_call 52; refine HW.out.mono ?_; rintro e w' ⟨rfl, rfl⟩))
      go_ret2
      rw [H.out]; exact ⟨_, rfl, Row.nil _ _ _, (fun k h => by cases h), Mods.refl _ _⟩
    | true =>
      have hin' := hin
      simp only [inside, decide_eq_true_eq] at hin'
      obtain ⟨h1, h2, h3, h4⟩ := hin'
      obtain ⟨A, rfl⟩ : ∃ A : Nat, a = A := ⟨a.toNat, by omega⟩
      obtain ⟨K, rfl⟩ : ∃ K : Nat, n = K := ⟨n.toNat, by omega⟩
      have H := Lib.hid (show p.read f A K = ((x.data.drop A).take K, 0) by simp [Pool.read, h, hin])
      rw [hin] at HW
      have hAK : A + K ≤ 64 := by omega
      have hlen : ((x.data.drop A).take K).length = K := by rw [List.length_take, List.length_drop]; omega
      have hb : ∀ off' c, K ≤ c → (off' = off + f.toNat * 65 + A ∨ K = 0) → BytesAt w (.slice (some ⟨g, off', none⟩) K c) ((x.data.drop A).take K) := fun off' c hcK ho => by
        refine ⟨_, c, by rw [hlen], by rw [hlen]; exact hcK, by rw [hlen]; unfold maxLen; omega, fun h0 => ⟨g, off', rfl, R.lt g (R.fv g rfl), fun j hj => ?_⟩⟩
        rw [hlen] at hj
        rcases ho with rfl | ho
        · rw [Nat.add_assoc]
          refine hr (A + j) _ ?_
          rw [fcells, List.getElem?_append_left (by simp; omega), nth_get (by rw [hlen]; exact hj)]
          simp
          rw [List.getElem?_eq_getElem (by omega)]
          exact ⟨_, rfl, rfl⟩
        · omega
      have Hb := Lib.hid hb
      have Hlen := Lib.hid hlen
      have hcut := fun W q => page_cut W g q A K hAK
      have HC := Lib.hid (bclone_calls (hb (offAt (off + f.toNat * 65) A) (64 - A) (by omega) (by unfold offAt; split <;> omega)) (fun k hk => by cases hk; exact R.lt g (R.fv g rfl)) (by omega))
      clear h R hr ht hl hin hb hlen
      generalize off + f.toNat * 65 = q at *
      generalize (x.data.drop A).take K = l at *
      go_enter Try.func45, Try.ntmps45
      go_wp2_with (first
        | (go_at_call 71; refine HF.out.mono ?_; rintro e w' ⟨rfl, rfl⟩)
        | (go_at_call 52; refine HW.out.mono ?_; rintro e w' ⟨rfl, rfl⟩)
        | (go_at_call 72; refine HC.out.mono ?_; rintro e w2 ⟨v2, rfl, hn⟩; have Hn := Lib.hid hn; clear hn))
      go_ret2
      rw [H.out]
      exact ⟨v2, rfl, Hn.out⟩

set_option maxHeartbeats 1000000 in
theorem pwrite_calls (R : PRep w b p v fp) (f a : Int) {u : Value} {l : List Int} (hu : BytesAt w u l) :
    Calls Try.prog 70 #[ptr b, i64 f, i64 a, u] w (PPost b (p.write f a l).1 fp (i64 (p.write f a l).2) w) := by
  have HF := Lib.hid (pfind_calls R f)
  have HR := Lib.hid R
  have Hu := Lib.hid hu
  obtain ⟨ua, uc, rfl, huc, hul, hur⟩ := hu
  clear huc
  cases h : p.at_ f with
  | none =>
    have H := Lib.hid (show p.write f a l = (p, -25) by simp [Pool.write, h])
    rw [show p.ptr v f = .pointer none by simp [Pool.ptr, h]] at HF
    clear h R hur
    go_enter Try.func70, Try.ntmps70
    go_wp2_with (go_at_call 71; refine HF.out.mono ?_; rintro e w' ⟨rfl, rfl⟩)
    go_ret
    rw [H.out]; exact ⟨rfl, v, fp, HR.out, Mods.refl _ _, fun _ h => .inl h⟩
  | some x =>
    obtain ⟨g, off, cap, rfl, hr, ht⟩ := R.frame h
    have hl := R.wf x (List.mem_of_getElem? (Pool.at_some h).2.1)
    rw [show p.ptr _ f = .pointer (some ⟨g, off + f.toNat * 65, none⟩) by simp [Pool.ptr, h, add_lit']] at HF
    have HW := Lib.hid (within_calls (w := w) a l.length 64 (by omega) (by omega))
    have cu := hr 64 (i64 x.users) (by simp [fcells, hl])
    cases hin : inside a l.length 64 with
    | false =>
      have H := Lib.hid (show p.write f a l = (p, -14) by simp [Pool.write, h, hin])
      rw [hin] at HW
      clear h R hr ht hl hin hur
      generalize off + f.toNat * 65 = q at *
      go_enter Try.func70, Try.ntmps70
      go_wp2_with (first
        | (go_at_call 71; refine HF.out.mono ?_; rintro e w' ⟨rfl, rfl⟩)
        | (go_at_call 52; refine HW.out.mono ?_; rintro e w' ⟨rfl, rfl⟩))
      go_ret
      rw [H.out]; exact ⟨rfl, _, fp, HR.out, Mods.refl _ _, fun _ h => .inl h⟩
    | true =>
      have hin' := hin
      simp only [inside, decide_eq_true_eq] at hin'
      obtain ⟨h1, h2, h3, h4⟩ := hin'
      obtain ⟨A, rfl⟩ : ∃ A : Nat, a = A := ⟨a.toNat, by omega⟩
      rw [hin] at HW
      by_cases hus : 1 < x.users
      · have H := Lib.hid (show p.write f A l = (p, -20) by simp [Pool.write, h, hin, hus])
        clear h R hr ht hl hin hur
        generalize off + f.toNat * 65 = q at *
        generalize x.users = us at *
        go_enter Try.func70, Try.ntmps70
        go_wp2_with (first
          | (go_at_call 71; refine HF.out.mono ?_; rintro e w' ⟨rfl, rfl⟩)
          | (go_at_call 52; refine HW.out.mono ?_; rintro e w' ⟨rfl, rfl⟩))
        go_ret
        rw [H.out]; exact ⟨rfl, _, fp, HR.out, Mods.refl _ _, fun _ h => .inl h⟩
      · have H := Lib.hid (show p.write f A l = (p.set f { x with data := x.data.take A ++ l ++ x.data.drop (A + l.length) }, 0) by simp [Pool.write, h, hin, hus])
        have hAK : A + l.length ≤ 64 := by omega
        have hcut := fun W q => page_from W g q A (by omega)
        have HS := Lib.hid (R.setData h (j := A) (news := l) hAK)
        have Hg := Lib.hid (R.fv g rfl)
        have hthere : w.there g (off + f.toNat * 65 + A) l.length := fun j hj => by
          rw [Nat.add_assoc]; exact ht (A + j) (by omega)
        have Hth := Lib.hid hthere
        have hcopy : (Builtin.copy_ #[22, 22] 3 #[.slice (some ⟨g, offAt (off + f.toNat * 65) A, none⟩) (64 - A) (64 - A), .slice ua l.length uc]).run Try.prog w =
            .ok (goInt l.length) (w.setCells g (off + f.toNat * 65 + A) (l.map u8)) := by
          have hsz : (Try.prog.info? 5).map (·.size) = some 1 := by kernel_rfl
          by_cases h0 : l.length = 0
          · have : l = [] := List.eq_nil_of_length_eq_zero h0
            subst this
            rw [run_copy_none w _ _ _ _ _ _ _ _ _ _ Try.underlying22 hsz (by simp)]
            rfl
          · obtain ⟨bb, oo, rfl, hlt, hc⟩ := hur (by omega)
            have ho : offAt (off + f.toNat * 65) A = off + f.toNat * 65 + A := by unfold offAt; rw [if_neg (by omega)]
            rw [ho, run_copy_cells w _ _ _ _ g (off + f.toNat * 65 + A) _ _ ⟨bb, oo, none⟩ _ _ (l.map u8) Try.underlying22 hsz (by rw [List.length_map]; exact (Nat.min_eq_left (by omega)).symm)
              (fun j v hj => by
                have hj' : j < l.length := by have := (List.getElem?_eq_some_iff.1 hj).1; simpa using this
                rw [add_lit', hc j hj', nth_get hj']
                simp [hj'] at hj
                rw [hj])
              (fun j hj => (hthere j (by simpa using hj)).1) (fun j hj => (hthere j (by simpa using hj)).2) (u8_one l)]
            simp
        have hcb : decide (1 < x.users) = false := by simpa using hus
        clear h R hr ht hl hin hur hthere hus
        generalize off + f.toNat * 65 = q at *
        generalize x.users = us at *
        go_enter Try.func70, Try.ntmps70
        go_wp2_with (first
          | (go_at_call 71; refine HF.out.mono ?_; rintro e w' ⟨rfl, rfl⟩)
          | (go_at_call 52; refine HW.out.mono ?_; rintro e w' ⟨rfl, rfl⟩))
        go_ret
        rw [H.out]
        exact ⟨rfl, _, fp, HS.out, (Mods.refl _ _).trans (setCells_mods _ _ _ _) (fun i hi => by subst hi; exact .inl Hg.out), fun _ h => .inl h⟩
end
end Go.Proofs.Ytkifgoadbnpofaa
