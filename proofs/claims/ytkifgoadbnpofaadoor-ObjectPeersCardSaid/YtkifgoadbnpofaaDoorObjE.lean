/- Walks of layer 18: spare, Carry. -/
import Derived.Test.YtkifgoadbnpofaaDoorObjD
import Derived.Test.YtkifgoadbnpofaaDoorIter
namespace Go.Proofs.YtkifgoadbnpofaaDoor
open Go Go.RowKit
set_option maxRecDepth 100000

theorem many_keys {S : Obs} {ids : List Int} {n : List (Int × Int)} (h : S.many ids = some n) : (n.map (·.1)).Nodup ∧ ∀ p ∈ n, (S.at p.1).isSome = true := by
  unfold Obs.many at h
  split at h
  · rename_i hall
    cases h
    have key : ∀ (l : List Int) (acc : List (Int × Int)), (∀ x ∈ l, (S.at x).isSome = true) → (acc.map (·.1)).Nodup → (∀ p ∈ acc, (S.at p.1).isSome = true) →
        ((l.foldl count acc).map (·.1)).Nodup ∧ ∀ p ∈ l.foldl count acc, (S.at p.1).isSome = true := by
      intro l
      induction l with
      | nil => intro acc _ h1 h2; exact ⟨h1, h2⟩
      | cons x l ih =>
        intro acc hl h1 h2
        refine ih _ (fun y hy => hl y (List.mem_cons_of_mem _ hy)) (nodup_put h1 _ _) (fun p hp => ?_)
        rcases (mem_put h1).1 hp with rfl | ⟨hp, _⟩
        · exact hl x List.mem_cons_self
        · exact h2 p hp
    exact key ids [] (fun x hx => List.all_eq_true.1 hall x hx) (by simp) (by simp)
  · cases h

section
variable {w : World} {o : Nat} {S : Obs} {fp : Nat → Prop} {m : Nat} {blk : Int → Nat} {bg : Int → Value}
def SparePost (w : World) (s : Int) (e : Ending) (w' : World) : Prop := e = .returned (i64 s) ∧ Mods (fun _ => False) w w'

set_option maxHeartbeats 1000000 in
theorem spare_calls (R : ORep w o S fp m blk bg) {v : Value} {ids : List Int} (hids : IntsAt w v ids) :
    Calls Tryd.prog 23 #[ptr o, v] w (SparePost w (S.spare ids)) := by
  have HM := Lib.hid (many_calls R hids)
  have HR := Lib.hid R
  clear hids R
  cases hm : S.many ids with
  | none =>
    have Hs := Lib.hid (show S.spare ids = -25 by simp [Obs.spare, hm])
    rw [hm] at HM
    clear hm
    go_enter Tryd.func23, Tryd.ntmps23
    go_wp2_with (go_at_call 29; refine HM.out.mono ?_; rintro e w' ⟨hmod, rfl⟩; have Hmod := Lib.hid hmod; clear hmod)
    go_ret
    rw [Hs.out]
    exact ⟨rfl, Hmod.out⟩
  | some n =>
    have Hs := Lib.hid (show S.spare ids = if n.any S.short then -20 else 0 by simp [Obs.spare, hm])
    rw [hm] at HM
    have Hkeys := Lib.hid (many_keys hm)
    clear hm
    go_enter Tryd.func23, Tryd.ntmps23
    go_wp2_with (go_at_call 29; refine HM.out.mono ?_; rintro e w1 ⟨hmod, mn, rfl, hmn, hMn⟩; have Hmod := Lib.hid hmod; have HMn := Lib.hid hMn; obtain ⟨w2, hrr, hit, hsz, hm2⟩ := run_range (P := Tryd.prog) 50 3 3 Tryd.underlying50 hMn; have Hit := Lib.hid hit; have Hm2 := Lib.hid hm2; clear hmod hMn hit hm2)
    go_loopw [19] (fun _ wr => ∃ rest, IterAt wr w1.heap.size mn (encI n) rest ∧ (∀ p ∈ rest, p ∈ encI n) ∧ (∀ p ∈ n, (p.1, i64 p.2) ∈ rest ∨ S.short p = false) ∧ w1.heap.size < wr.heap.size ∧ Mods (fun _ => False) w1 wr)
      (fun _ wr => iterLeft wr w1.heap.size mn)
    case atStart => exact ⟨_, Hit.out, fun _ h => h, fun p hp => .inl (List.mem_map.2 ⟨p, hp, rfl⟩), by omega, Hm2.out⟩
    case round =>
      rename_i wr
      obtain ⟨rest, hiter, hsub, hdone, hszr, hmr⟩ := hrel
      have Hl := Lib.hid hiter.left
      have MM : Mods (fun _ => False) w wr := Hmod.out.trans hmr (fun _ h => h.elim)
      clear hrr hsz
      rcases run_next_iter (P := Tryd.prog) hiter with ⟨rfl, hnx⟩ | ⟨k, kv, rest', w3, hin, hsplit, hlen, hsub', hnx, hit3, hsz3, hm3, hen⟩
      · have Hall := Lib.hid (show n.any S.short = false by
          refine List.any_eq_false.2 fun p hp => ?_
          rcases hdone p hp with h | h
          · cases h
          · simp [h])
        clear hdone hsub hiter
        go_wp2
        go_ret
        rw [Hs.out, Hall.out]
        exact ⟨rfl, MM⟩
      · obtain ⟨⟨k', c⟩, hpn, hpe⟩ := List.mem_map.1 (hsub _ hin)
        simp only [Prod.mk.injEq] at hpe
        obtain ⟨rfl, rfl⟩ := hpe
        have hsome := Hkeys.out.2 _ hpn
        simp only at hsome
        obtain ⟨h, hg⟩ := Option.isSome_iff_exists.1 hsome
        have R := HR.out
        have hm3' : Mods (fun _ => False) w w3 := by
          have := MM.trans hm3 (fun i hi => .inr (by subst hi; exact Hmod.out.size))
          exact this
        have R3 := R.mods hm3' (fun _ _ h => h)
        have c0 : w3.cell? ⟨o, 0, none⟩ = some (.map (some m)) := (cell_of (o := 0) R3.top).trans rfl
        have hM := R3.map
        have hk := R.look k'
        have hl := lookups m (S.all.map fun p => (p.1, ptr (blk p.1)))
        generalize (S.all.map fun p => (p.1, ptr (blk p.1))) = L at hM hk hl
        rw [hg] at hk
        have hh := R3.hdr _ (get_mem hg)
        simp only at hh
        have c2 : w3.cell? ⟨blk k', 2, none⟩ = some (.int .i64 h.refs) := (cell_of (o := 2) hh).trans rfl
        have Hdone := Lib.hid hdone
        have Hsplit := Lib.hid hsplit
        have Hit3 := Lib.hid hit3
        have Hrest := Lib.hid (fun p hp => hsub p (hsub' p hp))
        have Hlen := Lib.hid hlen
        have Hmr3 := Lib.hid (show Mods (fun _ => False) w1 w3 from hmr.trans hm3 (fun i hi => .inr (by subst hi; exact Nat.le_refl _)))
        by_cases hsh : h.refs < c
        · have Hany := Lib.hid (show n.any S.short = true from List.any_eq_true.2 ⟨_, hpn, by simp only [Obs.short, hg]; simpa using hsh⟩)
          clear hin hsub hdone hpn hsplit hsub' hlen hiter hit3 hm3 hmr R R3 hh hg hsome MM
          go_wp2
          go_ret
          rw [Hs.out, Hany.out]
          exact ⟨rfl, hm3'⟩
        · have Hns := Lib.hid (show S.short (k', c) = false by simp only [Obs.short, hg]; simpa using hsh)
          clear hin hsub hdone hpn hsplit hsub' hlen hiter hit3 hm3 hmr R R3 hh hg hsome MM
          go_wp2
          go_roundw
          case rel =>
            refine ⟨rest', Hit3.out, Hrest.out, fun p hp => ?_, by omega, Hmr3.out⟩
            rcases Hdone.out p hp with h | h
            · rcases Hsplit.out _ h with h | h
              · simp only [Prod.mk.injEq, i64, Value.int.injEq, true_and] at h
                right
                obtain ⟨h1, h2⟩ := h
                have : p = (k', c) := Prod.ext h1 h2
                rw [this]; exact Hns.out
              · exact .inl h
            · exact .inr h
          case measure =>
            rw [Hit3.out.left, Hl.out]; exact Hlen.out
end
end Go.Proofs.YtkifgoadbnpofaaDoor
