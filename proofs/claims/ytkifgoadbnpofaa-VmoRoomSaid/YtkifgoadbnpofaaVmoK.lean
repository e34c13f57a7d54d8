/- Walks of layer 8: Create, window, Slice. -/
import Derived.Test.YtkifgoadbnpofaaVmoJ
import Derived.Test.YtkifgoadbnpofaaVmoPure2
namespace Go.Proofs.Ytkifgoadbnpofaa
open Go Go.RowKit
set_option maxRecDepth 100000

/-- What a call leaves that may make an object. -/
def MadePost (Y : Lay) (r : Vset × Int × Int) (pf : Nat → Prop) (w : World) (e : Ending) (w' : World) : Prop :=
  e = .returned (.tuple #[i64 r.2.1, i64 r.2.2]) ∧ VUpd Y r.1 pf w w'
section
variable {w : World} {Y : Lay} {S : Vset} {pv : Value} {pf : Nat → Prop}
theorem VUpd.same (R : VRep w Y S pv pf) {w' : World} (M : Mods (fun _ => False) w w') : VUpd Y S pf w w' :=
  ⟨Y, pv, pf, R.mods M (fun _ _ h => h), rfl, M.mono (fun _ h => h.elim), fun _ h => h.elim .inl (fun h => .inr (.inl h))⟩
/-- Another object's end of a list of blocks. -/
theorem Added.upd {S' : Vset} {id : Int} {b mb : Nat} {w1 w' : World} (h : Added Y S' pv pf id b mb w1 w') (M : Mods (fun _ => False) w w1) (hb : w.heap.size ≤ b) (hmb : w.heap.size ≤ mb) : VUpd Y S' pf w w' := by
  obtain ⟨Y', R', e1, e2, e3, e4, e5, M', hf⟩ := h.ex
  refine ⟨Y', pv, pf, R', e1, (M.mono (fun _ h => h.elim)).trans M' (fun _ h => .inl (.inr h)), fun k hk => ?_⟩
  rcases hk with hk | hk
  · exact .inl hk
  · rcases hf k hk with h | h | h | h
    · exact .inr (.inl h)
    · exact .inr (.inr (by omega))
    · exact .inr (.inr (by omega))
    · exact .inr (.inr (by have := M.size; omega))
theorem Good.fresh (G : Good S) (hl : S.last < 4611686018427387904) : wrap64 (S.last + 1) = S.last + 1 ∧ S.at_ (S.last + 1) = none ∧ ∀ k o, S.at_ k = some o → k ≠ S.last + 1 := by
  have h0 := G.last0
  have h1 : ∀ k o, S.at_ k = some o → k ≠ S.last + 1 := fun k o h e => by
    have := G.key _ (G.mem h)
    simp only at this
    omega
  refine ⟨w64 (by omega) (by omega), ?_, h1⟩
  cases h : S.at_ (S.last + 1) with
  | none => rfl
  | some o => exact absurd rfl (h1 _ _ h)
theorem Good.kidsLen (G : Good S) {id : Int} {o : Vobj} (h : S.at_ id = some o) : o.kids.length ≤ 65536 := by
  have hk := G.kids _ (G.mem h)
  have hn := G.knd _ (G.mem h)
  simp only at hk hn
  have : o.kids.length ≤ (S.objs.map (·.1)).length := by
    refine List.Nodup.length_le_of_subset hn (fun c hc => ?_)
    obtain ⟨q, hq, _⟩ := (hk c).1 hc
    exact List.mem_map.2 ⟨_, get_mem hq, rfl⟩
  rw [List.length_map] at this
  have := G.count
  have := G.most1
  omega
theorem Good.zero (G : Good S) : S.at_ 0 = none := by
  cases h : S.at_ 0 with
  | none => rfl
  | some o => have := G.key _ (G.mem h); simp only at this; omega

set_option maxHeartbeats 2000000 in
theorem vcreate_calls (R : VRep w Y S pv pf) (G : Good S) (hl : S.last < 4611686018427387904) (n : Int) :
    Calls Try.prog 14 #[ptr Y.s, i64 n] w (MadePost Y (S.create n) pf w) := by
  have HS := Lib.hid (vsize_calls (w := w) n)
  have HR := Lib.hid R
  by_cases hs : (sizeUp n).2 = 0
  · have hcr : S.create n = S.add ⟨(sizeUp n).1, 0, [], [], false, 0, 0, false⟩ := by simp [Vset.create, hs]
    rw [hs] at HS
    obtain ⟨hw, hn, hne⟩ := G.fresh hl
    generalize (sizeUp n).1 = up at *
    have hlt : ∀ k, (pf k ∨ Y.of k) → k < w.heap.size := fun k hk => by rcases hk with hk | hk; exact R.pool.lt k hk; exact R.lt k hk
    have MA := Lib.hid (fun (o1 o2 : Obj) => ((Mods.refl (fun _ => False) w).alloc o1).alloc o2)
    by_cases hfull : S.most ≤ S.objs.length
    · have H := Lib.hid (show S.create n = (S, 0, -4) by rw [hcr]; simp [Vset.add, hfull])
      have HA := Lib.hid (fun (w1 : World) (M : Mods (fun _ => False) w w1) (b : Nat) => vadd_full (R.mods M (fun _ _ h => h)) b hfull)
      clear R G hcr hw hn hne hfull hs hlt
      go_enter Try.func14, Try.ntmps14
      go_wp2_with (first
        | (go_at_call 38; refine HS.out.mono ?_; rintro e w' ⟨rfl, rfl⟩)
        | (go_at_call 39; refine (HA.out _ (MA.out _ _) _).mono ?_; rintro e w2 ⟨rfl, hR, hM⟩; have HR2 := Lib.hid hR; have HM2 := Lib.hid hM; clear hR hM))
      go_ret2
      unfold MadePost
      rw [H.out]
      exact ⟨rfl, VUpd.same HR.out ((MA.out _ _).trans HM2.out (fun _ h => h.elim))⟩
    · have hid : (S.add ⟨up, 0, [], [], false, 0, 0, false⟩).2 = (S.last + 1, 0) := by
        rw [Vset.add_ok hfull hw.symm (show (0 : Int) ≠ S.last + 1 by have := G.last0; omega)]
        simp only
        rw [G.zero]
      have H := Lib.hid (show S.create n = ((S.add ⟨up, 0, [], [], false, 0, 0, false⟩).1, S.last + 1, 0) by rw [hcr, ← hid])
      have HA := Lib.hid (fun (W : World) (hW : W = (w.alloc (.map #[] 0)).alloc (.cells #[i64 up, i64 0, .map (some w.heap.size), .slice none 0 0, .bool false, i64 0, i64 0, .bool false] tVobj)) =>
        (show Calls Try.prog 39 #[ptr Y.s, .pointer (some ⟨w.heap.size + 1, 0, none⟩)] W (AddPost Y (S.add ⟨up, 0, [], [], false, 0, 0, false⟩).1 pv pf (S.last + 1) (w.heap.size + 1) w.heap.size W) by
          subst hW
          have h1 := hp_alloc_new (w.alloc (.map #[] 0)) (.cells #[i64 up, i64 0, .map (some w.heap.size), .slice none 0 0, .bool false, i64 0, i64 0, .bool false] tVobj)
          rw [show (w.alloc (.map #[] 0)).heap.size = w.heap.size + 1 by simp] at h1
          exact vadd_calls (R.mods (MA.out _ _) (fun _ _ h => h)) (mb := w.heap.size) (o := ⟨up, 0, [], [], false, 0, 0, false⟩) hfull hw.symm hn
            (show (0 : Int) ≠ S.last + 1 by have := G.last0; omega) rfl rfl ⟨fun h => by have := hlt _ (.inr h); omega, fun h => by have := hlt _ (.inl h); omega⟩
            (fun _ => ⟨fun h => by have := hlt _ (.inr h); omega, fun h => by have := hlt _ (.inl h); omega⟩) h1 (fun _ => (MapAt_alloc (by simp)).2 (MapAt.new w)) (fun up h => by rw [G.zero] at h; cases h)))
      clear R G hcr hw hn hne hfull hs hlt hid
      go_enter Try.func14, Try.ntmps14
      go_wp2_with (first
        | (go_at_call 38; refine HS.out.mono ?_; rintro e w' ⟨rfl, rfl⟩)
        | (go_at_call 39; refine (HA.out _ rfl).mono ?_; rintro e w2 ⟨rfl, hA⟩; have HA2 := Lib.hid hA; clear hA))
      go_ret2
      unfold MadePost
      rw [H.out]
      exact ⟨rfl, HA2.out.upd (MA.out _ _) (by omega) (Nat.le_refl _)⟩
  · have H := Lib.hid (show S.create n = (S, 0, (sizeUp n).2) by simp [Vset.create, hs])
    have hsb : ((sizeUp n).2 == 0) = false := by simpa using hs
    generalize (sizeUp n).1 = up at *
    generalize (sizeUp n).2 = st at *
    clear R G hs
    go_enter Try.func14, Try.ntmps14
    go_wp2_with (go_at_call 38; refine HS.out.mono ?_; rintro e w' ⟨rfl, rfl⟩)
    go_ret2
    unfold MadePost
    rw [H.out]
    exact ⟨rfl, VUpd.same HR.out (Mods.refl _ _)⟩
end
end Go.Proofs.Ytkifgoadbnpofaa
