/- Walks of layer 7: Own. -/
import Derived.Test.YtkifgoadbnpofaaPoolC
import Derived.Deep.RegionHeld3
import Derived.Deep.MidRow
namespace Go.Proofs.Ytkifgoadbnpofaa
open Go Go.RowKit
set_option maxRecDepth 100000

namespace Pool
def own (p : Pool) (f : Int) : Pool × Int × Int := match p.at_ f with
  | none => (p, 0, -25)
  | some x => if x.users = 1 then (p, f, 0) else if p.alloc.2.2 ≠ 0 then (p.alloc.1, 0, p.alloc.2.2) else
    ({ p.alloc.1 with frames := (p.alloc.1.frames.set p.alloc.2.1.toNat ⟨x.data, 1⟩).set f.toNat { x with users := wrap64 (x.users - 1) } }, p.alloc.2.1, 0)
theorem free_free {L : List Frm} {k : Nat} (h : free L = k) : ∃ y, L[k]? = some y ∧ y.users = 0 := by
  have hlt := free_lt h
  unfold free at h
  split at h
  · have e : (L.findIdx fun x => x.users == 0) = k := by omega
    have := List.findIdx_getElem (xs := L) (p := fun x => x.users == 0) (w := by omega)
    simp only [e] at this
    exact ⟨_, List.getElem?_eq_getElem hlt, by simpa using this⟩
  · omega
theorem alloc_ok {p : Pool} (h : p.alloc.2.2 = 0) : p.used ≠ p.cap ∧ 0 ≤ p.alloc.2.1 ∧ p.alloc.1.frames[p.alloc.2.1.toNat]? = some (fresh 1) ∧
    (∀ k x, p.frames[k]? = some x → x.users ≠ 0 → p.alloc.1.frames[k]? = some x ∧ k ≠ p.alloc.2.1.toNat) ∧ p.alloc.1.cap = p.cap ∧ p.alloc.1.used = wrap64 (p.used + 1) := by
  unfold alloc at h ⊢
  split at h
  · cases h
  · rename_i hfull
    rw [if_neg hfull]
    split
    · refine ⟨hfull, by simp, by simp, fun k x hx _ => ?_, by first | rfl | trivial, by first | rfl | trivial⟩
      have hlt := (List.getElem?_eq_some_iff.1 hx).1
      refine ⟨?_, ?_⟩
      · simp only; rw [List.getElem?_append_left hlt]; exact hx
      · simp; omega
    · rename_i hneg
      obtain ⟨j, hj⟩ : ∃ j : Nat, free p.frames = j := ⟨(free p.frames).toNat, by omega⟩
      have hlt := free_lt hj
      obtain ⟨y, hy, hyu⟩ := free_free hj
      simp only [hj, Int.toNat_natCast]
      refine ⟨hfull, by omega, by simp [hlt], fun k x hx hu => ?_, by first | rfl | trivial, by first | rfl | trivial⟩
      have hne : k ≠ j := by rintro rfl; rw [hx] at hy; cases hy; exact hu hyu
      exact ⟨by rw [List.getElem?_set_ne (fun h => hne h.symm)]; exact hx, hne⟩
theorem at_of {p : Pool} {k : Nat} {x : Frm} (h : p.frames[k]? = some x) (hu : x.users ≠ 0) : p.at_ k = some x := by
  simp [at_, h, hu]
theorem alloc_bad {p : Pool} (h : p.alloc.2.2 ≠ 0) : p.alloc = (p, 0, -4) := by
  unfold alloc at h ⊢
  split
  · rfl
  · rename_i hf; rw [if_neg hf] at h
    split at h <;> simp at h
end Pool
theorem arr_size : (Try.prog.info? 119).map (·.size) = some 64 := by kernel_rfl

theorem wpList_store_list {P : Program} {ops : Array Oper} {rest : List Oper} {op : Oper} {a : Act} {w : World} {Q : Exit → Act → World → Prop} (hgd : op.guard = none) (ty : TypeId) (x y : Operand) (ho : op.op = .store ty x y)
    (b o : Nat) (ds : List Value) (n : Nat) (hx : a.eval x = .pointer (some ⟨b, o, none⟩)) (hy : a.eval y = .agg ds.toArray) (hn : ds.length = n)
    (ht : w.there b o n) (hi : (P.info? ty).map (·.size) = some n) (h1 : ∀ u ∈ ds, u.oneCell' = true)
    (h : wpList P ops Q rest (a.put op.dst undef) (w.setCells b o ds)) : wpList P ops Q (op :: rest) a w :=
  wpList_store_mid hgd ty x y ho b o ds.toArray hx hy (by rw [List.size_toArray, hn]; exact ht) (by rw [List.size_toArray, hn]; exact hi) (all_oneCell_toArray h1) h
theorem there_new (W : World) (zs : Array Value) (t : TypeId) {n : Nat} (h : zs.size = n) : (W.alloc (.cells zs t)).there W.heap.size 0 n := by
  intro j hj
  have hh := hp_alloc_new W (.cells zs t)
  refine ⟨?_, frozen_of hh⟩
  rw [cell_of hh, Array.getElem?_eq_getElem (by omega)]; rfl
/-- A new block that was written whole. -/
theorem new_stored (W : World) (zs : Array Value) (t : TypeId) (ds : List Value) (h : zs.size = ds.length) :
    ((W.alloc (.cells zs t)).setCells W.heap.size 0 ds).rangeAt W.heap.size 0 ds ∧ Mods (fun _ => False) W ((W.alloc (.cells zs t)).setCells W.heap.size 0 ds) ∧
    W.heap.size < ((W.alloc (.cells zs t)).setCells W.heap.size 0 ds).heap.size := by
  have M := setCells_mods W.heap.size ds 0 (W.alloc (.cells zs t))
  refine ⟨World.rangeAt_setCells_same _ _ _ _ (there_new W zs t h), ((Mods.refl (fun _ => False) W).alloc _).trans M (fun i hi => .inr (by omega)), ?_⟩
  have := M.size
  simp at this ⊢; omega
theorem wp_new_store {P : Program} {ops : Array Oper} {rest : List Oper} {op : Oper} {a : Act} {W : World} {Q : Exit → Act → World → Prop} (hgd : op.guard = none) (ty : TypeId) (x y : Operand) (ho : op.op = .store ty x y)
    {zs : Array Value} {t : TypeId} (ds : List Value) (n : Nat) (hx : a.eval x = .pointer (some ⟨W.heap.size, 0, none⟩)) (hy : a.eval y = .agg ds.toArray) (hn : ds.length = n)
    (hz : zs.size = n) (hi : (P.info? ty).map (·.size) = some n) (h1 : ∀ u ∈ ds, u.oneCell' = true)
    (h : ∀ w3, w3.rangeAt W.heap.size 0 ds → Mods (fun _ => False) W w3 → W.heap.size < w3.heap.size → wpList P ops Q rest (a.put op.dst undef) w3) : wpList P ops Q (op :: rest) a (W.alloc (.cells zs t)) := by
  refine wpList_store_list hgd ty x y ho _ 0 ds n hx hy hn (there_new W zs t hz) hi h1 ?_
  obtain ⟨h1, h2, h3⟩ := new_stored W zs t ds (by rw [hz, hn])
  exact h _ h1 h2 h3
theorem rangeAt_mods {F : Nat → Prop} {w w' : World} {g o : Nat} {cs : List Value} (h : w.rangeAt g o cs) (M : Mods F w w') (hg : g < w.heap.size) (hF : ¬ F g) : w'.rangeAt g o cs :=
  fun j u hj => by rw [← h j u hj]; exact M.cell (p := ⟨g, o + j, none⟩) hg hF

section
variable {w : World} {b : Nat} {p : Pool} {v : Value} {fp : Nat → Prop}
/-- What Own does with the new frame: bytes over, one user fewer. -/
theorem PRep.over {q : Pool} {v' : Value} {fp' : Nat → Prop} (R : PRep w b q v' fp') {k2 kf : Nat} {y x : Frm} (hy : q.at_ k2 = some y) (hx : q.at_ kf = some x) (hne : kf ≠ k2) :
    ∃ g' off' cap', v' = .slice (some ⟨g', off', none⟩) q.frames.length cap' ∧ fp' g' ∧ k2 < q.frames.length ∧ kf < q.frames.length ∧ w.cell? ⟨b, 0, none⟩ = some v' ∧ w.there g' (off' + k2 * 65) 64 ∧
    ∀ n, (((w.drewN n).setCells g' (off' + k2 * 65) (x.data.map u8)).cell? ⟨b, 0, none⟩ = some v' ∧
      ((w.drewN n).setCells g' (off' + k2 * 65) (x.data.map u8)).cell? ⟨g', off' + kf * 65 + 64, none⟩ = some (i64 x.users) ∧
      ((w.drewN n).setCells g' (off' + k2 * 65) (x.data.map u8)).frozen? ⟨g', off' + kf * 65 + 64, none⟩ = false) ∧
      Mods (fun k => k = g') w ((w.drewN n).setCells g' (off' + k2 * 65) (x.data.map u8)) ∧
      ∀ u, PRep (((w.drewN n).setCells g' (off' + k2 * 65) (x.data.map u8)).setCell ⟨g', off' + kf * 65 + 64, none⟩ (i64 u)) b { q with frames := (q.frames.set k2 ⟨x.data, y.users⟩).set kf { x with users := u } } v' fp' := by
  obtain ⟨g', off', cap', rfl, hr, ht⟩ := R.frame hy
  obtain ⟨_, hy', hyu⟩ := Pool.at_some hy
  obtain ⟨_, hx', hxu⟩ := Pool.at_some hx
  simp only [Int.toNat_natCast] at hy' hx' hr ht
  have hyl := R.wf y (List.mem_of_getElem? hy')
  have hxl := R.wf x (List.mem_of_getElem? hx')
  refine ⟨g', off', cap', rfl, R.fv _ rfl, (List.getElem?_eq_some_iff.1 hy').1, (List.getElem?_eq_some_iff.1 hx').1, (cell_of (o := 0) R.top).trans rfl, fun j hj => ht j (by omega), fun n => ?_⟩
  have R0 : PRep (w.drewN n) b q _ fp' := R.keep (by simp) (fun _ _ => rfl)
  have R1 := R0.setData hy (j := 0) (news := x.data) (by omega)
  simp only [Int.toNat_natCast, Nat.add_zero, List.take_zero, List.nil_append] at R1
  rw [show y.data.drop (0 + x.data.length) = [] from List.drop_eq_nil_of_le (by omega), List.append_nil] at R1
  have hq : q.set k2 { y with data := x.data } = { q with frames := q.frames.set k2 ⟨x.data, y.users⟩ } := by simp [Pool.set]
  rw [hq] at R1
  have hx1 : ({ q with frames := q.frames.set k2 ⟨x.data, y.users⟩ } : Pool).at_ kf = some x := Pool.at_of (by simp only; rw [List.getElem?_set_ne (fun h => hne h.symm)]; exact hx') hxu
  have hlen : ({ q with frames := q.frames.set k2 ⟨x.data, y.users⟩ } : Pool).frames.length = q.frames.length := by simp
  obtain ⟨g1, off1, cap1, he, hr1, ht1⟩ := R1.frame hx1
  rw [hlen] at he
  cases he
  simp only [Int.toNat_natCast] at hr1 ht1
  refine ⟨⟨(cell_of (o := 0) R1.top).trans rfl, hr1 64 _ (by simp [fcells, hxl]), (ht1 64 (by omega)).2⟩, ((Mods.refl _ w).drewN n).trans (setCells_mods _ _ _ _) (fun i hi => .inl hi), fun u => ?_⟩
  have R1' := R1
  rw [← hlen] at R1'
  have := R1'.setUsers hx1 u
  rw [hlen] at this
  simpa [Pool.set] using this

set_option maxHeartbeats 1000000 in
theorem pown_calls (R : PRep w b p v fp) (hsm : p.frames.length ≤ 65536) (f : Int) : Calls Try.prog 67 #[ptr b, i64 f] w (PPost b (p.own f).1 fp (.tuple #[i64 (p.own f).2.1, i64 (p.own f).2.2]) w) := by
  have HF := Lib.hid (pfind_calls R f)
  cases h : p.at_ f with
  | none =>
    have H := Lib.hid (show p.own f = (p, 0, -25) by simp [Pool.own, h])
    rw [show p.ptr v f = .pointer none by simp [Pool.ptr, h]] at HF
    have HR := Lib.hid R
    clear h R
    go_enter Try.func67, Try.ntmps67
    go_wp2_with (go_at_call 71; refine HF.out.mono ?_; rintro e w' ⟨rfl, rfl⟩)
    go_ret2
    rw [H.out]; exact ⟨rfl, v, fp, HR.out, Mods.refl _ _, fun _ h => .inl h⟩
  | some x =>
    obtain ⟨g, off, cap, rfl, hr, ht⟩ := R.frame h
    have hl := R.wf x (List.mem_of_getElem? (Pool.at_some h).2.1)
    rw [show p.ptr _ f = .pointer (some ⟨g, off + f.toNat * 65, none⟩) by simp [Pool.ptr, h, add_lit']] at HF
    have cu := hr 64 (i64 x.users) (by simp [fcells, hl])
    have HR := Lib.hid R
    by_cases h1 : x.users = 1
    · have H := Lib.hid (show p.own f = (p, f, 0) by simp [Pool.own, h, h1])
      rw [h1] at cu
      clear h R hr ht hl h1
      generalize off + f.toNat * 65 = q at *
      go_enter Try.func67, Try.ntmps67
      go_wp2_with (go_at_call 71; refine HF.out.mono ?_; rintro e w' ⟨rfl, rfl⟩)
      go_ret2
      rw [H.out]; exact ⟨rfl, _, fp, HR.out, Mods.refl _ _, fun _ h => .inl h⟩
    · have h1b : (x.users == 1) = false := by simpa using h1
      have hd : w.rangeAt g (off + f.toNat * 65) (x.data.map u8) := fun j u hj => hr j u (by
        have := (List.getElem?_eq_some_iff.1 hj).1
        rw [fcells, List.getElem?_append_left (by omega)]; exact hj)
      have Hd := Lib.hid hd
      have Hds := Lib.hid (show (x.data.map u8).length = 64 by simpa using hl)
      have HH := Lib.hid h
      have Hl := Lib.hid hl
      have H1 := Lib.hid h1
      generalize hus : x.users = us at cu h1b
      have Hus := Lib.hid hus
      clear h R hr ht hl h1 hd hus
      have Hone := Lib.hid (show ∀ u ∈ x.data.map u8, u.oneCell' = true by
        intro u hu
        obtain ⟨_, _, rfl⟩ := List.mem_map.1 hu
        rfl)
      generalize hqq : off + f.toNat * 65 = q at *
      have Hqq := Lib.hid hqq
      have HA := Lib.hid (fun (W : World) (R1 : PRep W b p (.slice (some ⟨g, off, none⟩) p.frames.length cap) fp) => palloc_calls R1 hsm)
      clear hqq
      by_cases hbad : p.alloc.2.2 = 0
      · obtain ⟨hfull, hg0, hfr, hkeep, hcap, hused⟩ := Pool.alloc_ok hbad
        obtain ⟨k2, hk2⟩ : ∃ k2 : Nat, p.alloc.2.1 = k2 := ⟨p.alloc.2.1.toNat, by omega⟩
        obtain ⟨hf0, hxf, hxu⟩ := Pool.at_some HH.out
        obtain ⟨kf, rfl⟩ : ∃ kf : Nat, f = kf := ⟨f.toNat, by omega⟩
        simp only [Int.toNat_natCast] at hxf
        obtain ⟨hxq, hne⟩ := hkeep _ _ hxf hxu
        rw [hk2, Int.toNat_natCast] at hfr hne
        have Hov := Lib.hid (fun (W : World) (v' : Value) (fp' : Nat → Prop) (R4 : PRep W b p.alloc.1 v' fp') => R4.over (Pool.at_of hfr (by decide)) (Pool.at_of hxq hxu) hne)
        have H := Lib.hid (show p.own kf = ({ p.alloc.1 with frames := (p.alloc.1.frames.set k2 ⟨x.data, 1⟩).set kf { x with users := wrap64 (us - 1) } }, (k2 : Int), 0) by
          unfold Pool.own; simp only [HH.out]; rw [if_neg H1.out, if_neg (by simp [hbad]), hk2, Hus.out]; rfl)
        rw [hbad, hk2] at HA
        rw [Hus.out] at Hov
        clear hbad hfull hg0 hfr hkeep hcap hused hk2 hf0 hxf hxu hxq hne
        generalize p.alloc.1 = Q at *
        generalize hdd : x.data.map u8 = ds at *
        have hu119 := Try.underlying119
        have hi119 : (Try.prog.info? 119).map (·.size) = some ds.length := by rw [Hds.out]; exact arr_size
        have hds := Hds.out
        have hone := Hone.out
        clear hdd
        go_enter Try.func67, Try.ntmps67
        go_wp2_with (first
          | (go_at_call 71; refine HF.out.mono ?_; rintro e w' ⟨rfl, rfl⟩)
          | (refine wpList_load_mid rfl 119 (.tmp 25) rfl g q rfl ds _ Hd.out Try.underlying119 rfl (by rw [Hds.out]; exact arr_size) ?_)
          | (refine wp_new_store rfl 119 (.tmp 7) (.tmp 26) rfl ds 64 rfl rfl Hds.out (by rfl) arr_size Hone.out ?_; intro w3 hrB hMB hszB; have HrB := Lib.hid hrB; have HMB := Lib.hid hMB; have HszB := Lib.hid hszB; clear hrB hMB hszB)
          | (go_at_call 68; refine (HA.out _ (HR.out.mods HMB.out (fun _ _ h => h))).mono ?_; rintro e w4 ⟨rfl, v4, fp4, hP4, hM4, hf4⟩; have HM4 := Lib.hid hM4; have Hf4 := Lib.hid hf4; have HP4 := Lib.hid hP4; clear hM4 hf4 hP4))
        have hBlt := HR.out.lt
        have hBsz := HszB.out
        have hrB4 := rangeAt_mods HrB.out HM4.out hBsz (fun h => by have := hBlt _ h; omega)
        obtain ⟨g', off', cap', rfl, hfg, hk2, hkf, c0', ht', hnext⟩ := Hov.out _ _ _ HP4.out
        have Hfg := Lib.hid hfg
        have Hnext := Lib.hid hnext
        have hBg : w'.heap.size ≠ g' := fun h => by
          rcases Hf4.out g' hfg with h1 | h1
          · have := hBlt _ h1; omega
          · omega
        clear hBlt hBsz hfg hnext
        generalize hBB : w'.heap.size = B at *
        have HBB := Lib.hid hBB
        clear hBB
        have hbg : b ≠ g' := (HP4.out.ne rfl)
        have hkeep1 : ∀ (W : World) u, W.cell? ⟨b, 0, none⟩ = some u → (W.setCells g' (off' + k2 * 65) ds).cell? ⟨b, 0, none⟩ = some u := fun W u h => by
          rw [World.cell?_of_block ((setCells_mods g' ds (off' + k2 * 65) W).block b (World.block_lt_of_cell? W _ h) hbg)]; exact h
        have hkeep2 : ∀ (W : World), W.rangeAt B 0 ds → (W.setCells g' (off' + k2 * 65) ds).rangeAt B 0 ds := fun W h j u hj => by
          rw [World.cell?_of_block ((setCells_mods g' ds (off' + k2 * 65) W).block B (World.block_lt_of_cell? W _ (h j u hj)) hBg)]; exact h j u hj
        go_region_held3 (fun W => W.cell? ⟨b, 0, none⟩ = some (.slice (some ⟨g', off', none⟩) Q.frames.length cap') ∧ W.rangeAt B 0 ds ∧ W.there g' (off' + k2 * 65) 64)
          ((go_split_ands; simp only [World.rangeAt_drew, World.there_drew, World.cell?_drew] at *; (repeat' constructor) <;> first | assumption | (apply hkeep1; assumption) | (apply hkeep2; assumption) | (apply World.there_setCells; assumption))) (fail)
        obtain ⟨⟨c0'', cu'', fu''⟩, hM5, hP5⟩ := Hnext.out 1
        have HM5 := Lib.hid hM5
        have HP5 := Lib.hid hP5
        clear hM5 hP5 hkeep1 hkeep2 hrB4 c0' ht' hbg hBg
        change (w4.drew.setCells g' (off' + k2 * 65) ds).cell? _ = _ at c0'' cu''
        change (w4.drew.setCells g' (off' + k2 * 65) ds).frozen? _ = _ at fu''
        have HM5' := Lib.hid (show Mods (fun k => k = g') w4 (w4.drew.setCells g' (off' + k2 * 65) ds) from HM5.out)
        have HP5' := Lib.hid (show ∀ u, PRep ((w4.drew.setCells g' (off' + k2 * 65) ds).setCell ⟨g', off' + kf * 65 + 64, none⟩ (i64 u)) b { Q with frames := (Q.frames.set k2 ⟨x.data, (fresh 1).users⟩).set kf { x with users := u } } (.slice (some ⟨g', off', none⟩) Q.frames.length cap') fp4 from HP5.out)
        clear HM5 HP5 Hnext Hov
        generalize w4.drew.setCells g' (off' + k2 * 65) ds = w5 at *
        go_wp2
        go_ret2
        rw [H.out]
        have MM := ((((HMB.out.mono (fun _ h => h.elim) : Mods fp w' w3)).trans HM4.out (fun _ h => .inl h)).trans HM5'.out (fun i hi => by
          subst hi
          rcases Hf4.out _ Hfg.out with h | h
          · exact .inl h
          · exact .inr (Nat.le_trans (HMB.out.size) h)))
        refine ⟨rfl, _, fp4, HP5'.out _, MM.setCell (p := ⟨g', _, none⟩) ?_ _, fun k hk => ?_⟩
        · rcases Hf4.out _ Hfg.out with h | h
          · exact .inl h
          · exact .inr (Nat.le_trans (HMB.out.size) h)
        · rcases Hf4.out _ hk with h | h
          · exact .inl h
          · exact .inr (Nat.le_trans (HMB.out.size) h)
      · have H := Lib.hid (show p.own f = (p, 0, -4) by
          have := Pool.alloc_bad hbad
          unfold Pool.own; simp only [HH.out]; rw [if_neg H1.out, if_pos hbad, this])
        rw [Pool.alloc_bad hbad] at HA
        clear hbad
        generalize hdd : x.data.map u8 = ds at *
        clear hdd
        go_enter Try.func67, Try.ntmps67
        go_wp2_with (first
          | (go_at_call 71; refine HF.out.mono ?_; rintro e w' ⟨rfl, rfl⟩)
          | (refine wpList_load_mid rfl 119 (.tmp 25) rfl g q rfl ds _ Hd.out Try.underlying119 rfl (by rw [Hds.out]; exact arr_size) ?_)
          | (refine wp_new_store rfl 119 (.tmp 7) (.tmp 26) rfl ds 64 rfl rfl Hds.out (by rfl) arr_size Hone.out ?_; intro w3 hrB hMB hszB; have HMB := Lib.hid hMB; clear hrB hMB hszB)
          | (go_at_call 68; refine (HA.out _ (HR.out.mods HMB.out (fun _ _ h => h))).mono ?_; rintro e w4 ⟨rfl, v4, fp4, hP4, hM4, hf4⟩; have HM4 := Lib.hid hM4; have Hf4 := Lib.hid hf4; have HP4 := Lib.hid hP4; clear hM4 hf4 hP4))
        go_ret2
        rw [H.out]
        refine ⟨rfl, v4, fp4, HP4.out, (HMB.out.mono (fun _ h => h.elim) : Mods fp w' w3).trans HM4.out (fun _ h => .inl h), fun k hk => ?_⟩
        rcases Hf4.out _ hk with h | h
        · exact .inl h
        · exact .inr (Nat.le_trans (HMB.out.size) h)
end
end Go.Proofs.Ytkifgoadbnpofaa
