/- Walks of layer 7: IndexFunc over frames, Alloc. -/
import Derived.Test.YtkifgoadbnpofaaPool
import Derived.Deep.LoopGhost
namespace Go.Proofs.Ytkifgoadbnpofaa
open Go Go.RowKit
set_option maxRecDepth 100000

section
variable {w : World} {b : Nat} {p : Pool} {v : Value} {fp : Nat → Prop}
theorem free_calls (x : Frm) (hl : x.data.length = 64) :
    Calls Try.prog 96 #[.agg (fcells x).toArray] w fun e w' => e = .returned (.bool (x.users == 0)) ∧ Mods (fun _ => False) w w' := by
  have hc := fcells_len hl
  have hcu : (fcells x)[64]? = some (i64 x.users) := by simp [fcells, hl]
  generalize hcs : fcells x = cs at *
  clear hcs
  have hlt : 64 < cs.length := by omega
  have hcu' : cs[64] = i64 x.users := by rw [List.getElem?_eq_getElem hlt] at hcu; exact Option.some.inj hcu
  generalize x.users = us at *
  go_enter Try.func96, Try.ntmps96
  go_wp2
  go_ret
  exact ⟨rfl, (Mods.refl _ _).alloc _⟩

/-- The first free frame; -1: there is none. -/
def Pool.free (L : List Frm) : Int := if L.any (fun x => x.users == 0) then (L.findIdx (fun x => x.users == 0) : Nat) else -1
theorem Pool.free_hit {L : List Frm} {k : Nat} {x : Frm} (hx : L[k]? = some x) (hu : (x.users == 0) = true) (hj : ∀ j y, j < k → L[j]? = some y → (y.users == 0) = false) : Pool.free L = k := by
  have hlt := (List.getElem?_eq_some_iff.1 hx).1
  have he := (List.getElem?_eq_some_iff.1 hx).2
  have : L.findIdx (fun x => x.users == 0) = k := by
    rw [List.findIdx_eq hlt]
    refine ⟨by rw [he]; exact hu, fun j hj' => hj j _ hj' (List.getElem?_eq_getElem _)⟩
  unfold Pool.free
  rw [if_pos, this]
  exact List.any_eq_true.2 ⟨x, List.mem_of_getElem? hx, hu⟩
theorem Pool.free_none {L : List Frm} (hj : ∀ j y, j < L.length → L[j]? = some y → (y.users == 0) = false) : Pool.free L = -1 := by
  unfold Pool.free
  rw [if_neg]
  intro h
  obtain ⟨x, hx, hu⟩ := List.any_eq_true.1 h
  obtain ⟨j, hj', rfl⟩ := List.getElem_of_mem hx
  rw [hj j _ hj' (List.getElem?_eq_getElem _)] at hu
  cases hu

set_option maxHeartbeats 1000000 in
theorem ifree_calls {L : List Frm} (hw : ∀ f ∈ L, f.data.length = 64) (hsm : L.length ≤ 65536) (R : Row w tFrame 65 v L.length (L.flatMap fcells)) (hv : ∀ k, v.ownBlock = some k → k < w.heap.size) :
    Calls Try.prog 95 #[v, .func (.func 96) #[] #[]] w fun e w' => e = .returned (i64 (Pool.free L)) ∧ Mods (fun _ => False) w w' := by
  have hfl : ∀ f ∈ L, (fcells f).length = 65 := fun f hf => fcells_len (hw f hf)
  have HR := Lib.hid R
  have Hv := Lib.hid hv
  have Hw := Lib.hid hw
  have Hfl := Lib.hid hfl
  obtain ⟨a, c, rfl⟩ := R.shape
  clear R hv hw hfl
  go_enter Try.func95, Try.ntmps95
  go_wp2
  go_loopg [8] L.length (fun g i wr => ∃ k : Nat, k ≤ L.length ∧ i = .int .i64 k ∧ L.length - k = g ∧ (∀ j y, j < k → L[j]? = some y → (y.users == 0) = false) ∧ Mods (fun _ => False) w wr)
  case atStart => exact ⟨0, by omega, rfl, rfl, fun j y h => by omega, Mods.refl _ _⟩
  case round =>
    obtain ⟨k, hkl, rfl, rfl, hdone, hM⟩ := hrel
    have Hdone := Lib.hid hdone
    have HM := Lib.hid hM
    clear hdone hM
    by_cases hlt : k < L.length
    · obtain ⟨x, hx⟩ : ∃ x, L[k]? = some x := ⟨_, List.getElem?_eq_getElem hlt⟩
      have Hx := Lib.hid hx
      have hR := HR.out
      rcases hR.2 with ⟨h, h'⟩ | ⟨g, off, cap, cur, h, _⟩
      · omega
      cases h
      have Hwx := Lib.hid (Hw.out x (List.mem_of_getElem? hx))
      have hR' := (HR.out.mods HM.out (fun _ _ h => h))
      have hr : wr.rangeAt g (off + k * 65) (fcells x) := fun j u hj => by
        have := hR'.cells (k * 65 + j) u (by rw [flat_get Hfl.out hx (by have h1 := (List.getElem?_eq_some_iff.1 hj).1; have h2 := Hfl.out x (List.mem_of_getElem? hx); omega)]; exact hj)
        rw [← Nat.add_assoc] at this; exact this
      have Hr := Lib.hid hr
      have Hxl := Lib.hid (Hfl.out x (List.mem_of_getElem? hx))
      clear hr hR hR' hx
      cases hu : (x.users == 0) with
      | true =>
        have Hf := Lib.hid (Pool.free_hit Hx.out hu Hdone.out)
        have Hu := Lib.hid hu
        clear hu
        go_wp2_with (first
          | (refine wpList_load_mid rfl frameT (.tmp 14) rfl g (off + k * 65) rfl (fcells x) _ Hr.out Try.underlying121 rfl (by rw [Hxl.out]; rfl) ?_)
          | (go_at_call 96; refine (free_calls x Hwx.out).mono ?_; rintro e w2 ⟨rfl, M2⟩; rw [Hu.out]; have HM2 := Lib.hid M2; clear M2))
        go_ret
        rw [Hf.out]
        exact ⟨rfl, HM.out.trans HM2.out (fun _ h => h.elim)⟩
      | false =>
        have Hu := Lib.hid hu
        clear hu
        go_wp2_with (first
          | (refine wpList_load_mid rfl frameT (.tmp 14) rfl g (off + k * 65) rfl (fcells x) _ Hr.out Try.underlying121 rfl (by rw [Hxl.out]; rfl) ?_)
          | (go_at_call 96; refine (free_calls x Hwx.out).mono ?_; rintro e w2 ⟨rfl, M2⟩; rw [Hu.out]; have HM2 := Lib.hid M2; clear M2))
        go_roundg (L.length - (k + 1))
        case measure => omega
        case rel =>
          refine ⟨k + 1, by omega, by go_num, rfl, fun j y hj hy => ?_, HM.out.trans HM2.out (fun _ h => h.elim)⟩
          by_cases hjk : j = k
          · subst hjk
            rw [Hx.out] at hy; cases hy; exact Hu.out
          · exact Hdone.out j y (by omega) hy
    · have Hf := Lib.hid (Pool.free_none (L := L) (fun j y hj hy => Hdone.out j y (by omega) hy))
      go_wp2
      go_ret
      rw [Hf.out]
      exact ⟨rfl, HM.out⟩
end
end Go.Proofs.Ytkifgoadbnpofaa
