/- Walks of layer 7: Alloc. -/
import Derived.Test.YtkifgoadbnpofaaPoolB
import Derived.Great.BuildSlice
namespace Go.Proofs.Ytkifgoadbnpofaa
open Go Go.RowKit
set_option maxRecDepth 100000

def fresh (u : Int) : Frm := ⟨zeros 64, u⟩
theorem fresh_len (u : Int) : (fcells (fresh u)).length = 65 := by simp [fcells, fresh, zeros]
theorem infoFrame : (Try.prog.info? frameT).map (fun i => (i.zero, i.size, i.bytes)) = some (some (.agg (fcells (fresh 0)).toArray), 65, 72) := by kernel_rfl
theorem info3 {P : Program} {t : TypeId} {z : Value} {s b : Nat} (h : (P.info? t).map (fun i => (i.zero, i.size, i.bytes)) = some (some z, s, b)) : ∃ i, P.info? t = some i ∧ i.zero = some z ∧ i.size = s ∧ i.bytes = b := by
  cases hi : P.info? t with
  | none => simp [hi] at h
  | some i => simp only [hi, Option.map_some, Option.some.injEq, Prod.mk.injEq] at h; exact ⟨i, rfl, h.1, h.2.1, h.2.2⟩

theorem frame_size : (Try.prog.info? frameT).map (·.size) = some 65 := by kernel_rfl
theorem fresh_one (u : Int) : ∀ v ∈ fcells (fresh u), v.oneCell' = true := by
  intro v hv
  simp only [fcells, fresh, List.mem_append, List.mem_map, List.mem_singleton] at hv
  rcases hv with ⟨_, _, rfl⟩ | rfl <;> rfl
noncomputable abbrev zc0 : Array Value := Try.zeroCells121
noncomputable abbrev zc1 : Array Value := Try.zeroCells121.setIfInBounds 64 (.int .i64 1)
theorem zc0_eq : zc0 = (fcells (fresh 0)).toArray := by kernel_rfl
theorem zc0_size : zc0.size = 65 := by kernel_rfl
theorem fill_fresh {s : Nat} (hs : s = 65) : Instr.fill (fun i => some (i * s, s)) ((Array.range (1 * s)).map ((Value.agg (fcells (fresh 0)).toArray).cells[· % (Value.agg (fcells (fresh 0)).toArray).cells.size]!)) [(0, .agg zc0)] = some zc0 := by
  subst hs; kernel_rfl
theorem wp_built_fresh {ops : Array Oper} {rest : List Oper} {o : Oper} {a : Act} {w : World} {Q : Exit → Act → World → Prop} (hg : o.guard = none) (x : Operand) (ho : o.op = .buildSlice 108 1 #[(0, x)])
    (hx : a.eval x = .agg zc0) (h : wpList Try.prog ops Q rest (a.put o.dst (.slice (some ⟨w.heap.size, 0, none⟩) 1 1)) (w.alloc (.cells (fcells (fresh 0)).toArray frameT))) : wpList Try.prog ops Q (o :: rest) a w := by
  obtain ⟨i0, hi, hz, hs, _⟩ := info3 infoFrame
  refine wpList_buildSlice hg _ frameT 1 _ ho zc0 i0 _ Try.underlying108 hi hz (by rw [hs]; decide) (by rw [hs]; decide) ?_ ?_
  · simp only [List.map_toArray, List.map_cons, List.map_nil, hx]
    exact fill_fresh hs
  · rw [zc0_eq]; exact h
theorem zc1_list : zc1.toList = fcells (fresh 1) := by kernel_rfl
theorem zc1_size : zc1.size = 65 := by kernel_rfl
theorem zc1_one : zc1.all (·.oneCell') = true := by kernel_rfl
theorem build_fresh0 (W : World) : (Instr.build frameT #[]).run Try.prog W = .ok (.agg (fcells (fresh 0)).toArray) W := run_build W frameT #[] _ (by kernel_rfl)
theorem build_fresh1 (W : World) : (Instr.build frameT #[(1, .int .i64 1)]).run Try.prog W = .ok (.agg (fcells (fresh 1)).toArray) W := run_build W frameT _ _ (by kernel_rfl)
theorem built_fresh (W : World) : (Instr.buildSlice 108 1 #[(0, .agg (fcells (fresh 0)).toArray)]).run Try.prog W = .ok (.slice (some ⟨W.heap.size, 0, none⟩) 1 1) (W.alloc (.cells (fcells (fresh 0)).toArray frameT)) := by
  obtain ⟨i, hi, hz, hs, _⟩ := info3 infoFrame
  refine run_buildSlice W _ frameT 1 _ _ i _ Try.underlying108 hi hz ?_ ?_ ?_
  · rw [hs]; decide
  · rw [hs]; decide
  · rw [hs]; kernel_rfl

namespace Pool
def alloc (p : Pool) : Pool × Int × Int :=
  if p.used = p.cap then (p, 0, -4)
  else if free p.frames < 0 then ({ p with frames := p.frames ++ [fresh 1], used := wrap64 (p.used + 1) }, p.frames.length, 0)
  else ({ p with frames := p.frames.set (free p.frames).toNat (fresh 1), used := wrap64 (p.used + 1) }, free p.frames, 0)
theorem free_lt {L : List Frm} {k : Nat} (h : free L = k) : k < L.length := by
  unfold free at h
  split at h
  · rename_i ha
    have : (L.findIdx fun x => x.users == 0) < L.length := List.findIdx_lt_length.2 (by simpa using ha)
    omega
  · omega
end Pool

section
variable {w : World} {b : Nat} {p : Pool} {v : Value} {fp : Nat → Prop}
/-- A whole frame is written. -/
theorem PRep.setFrm {g off cap : Nat} {p' : Pool} (R : PRep w b p (.slice (some ⟨g, off, none⟩) p.frames.length cap) fp) {k : Nat} {x y : Frm} (hx : p.frames[k]? = some x) (hy : y.data.length = 64)
    (h1 : p'.frames = p.frames.set k y) (h2 : p'.cap = p.cap) (h3 : p'.used = p.used) :
    PRep (w.setCells g (off + k * 65) (fcells y)) b p' (.slice (some ⟨g, off, none⟩) p.frames.length cap) fp := by
  have hl := fcells_len hy
  have hx' := R.flen x (List.mem_of_getElem? hx)
  have hne := R.ne (k := g) rfl
  have hlt := (List.getElem?_eq_some_iff.1 hx).1
  have M := setCells_mods g (fcells y) (off + k * 65) w
  refine ⟨by rw [M.block b (R.lt b R.fb) hne, h2, h3]; exact R.top, ?_, ?_, R.fb, R.fv, fun j hk => by have := R.lt j hk; have := M.size; omega⟩
  · have := R.row.setCells (fcells y) (k * 65) w _ (by
      rw [hl]
      calc k * 65 + 65 = (k + 1) * 65 := by omega
        _ ≤ _ := Nat.mul_le_mul_right _ hlt)
    have e := flat_splice R.flen hx (j := 0) (f' := y) (vs := fcells y) (by omega) (by simp [hl, hx'])
    simp only [Nat.add_zero] at e
    rw [e] at this
    rw [h1]
    simpa using this
  · rw [h1]
    intro z hz
    rcases List.mem_or_eq_of_mem_set hz with hz | rfl
    · exact R.wf z hz
    · exact hy

theorem PRep.grow (R : PRep w b p v fp) {w2 : World} {cs : Array Value} {t : TypeId} {v' : Value} {x : Frm} (hrow : Row w2 tFrame 65 v' (p.frames.length + 1) (p.frames.flatMap fcells ++ fcells x))
    (hgr : (w.alloc (.cells cs t)).grownBy w2 v.ownBlock) (hown : v'.ownBlock = v.ownBlock ∨ v'.ownBlock = some (w.alloc (.cells cs t)).heap.size) (hx : x.data.length = 64) :
    (w2.cell? ⟨b, 0, none⟩ = some v ∧ w2.frozen? ⟨b, 0, none⟩ = false) ∧ PRep (w2.setCell ⟨b, 0, none⟩ v') b { p with frames := p.frames ++ [x] } v' (fun k => fp k ∨ v'.ownBlock = some k) ∧ Mods fp w (w2.setCell ⟨b, 0, none⟩ v') ∧
    (∀ k, v'.ownBlock = some k → fp k ∨ w.heap.size ≤ k) := by
  have hb := R.lt b R.fb
  have ht : w2.heap[b]? = some (.cells #[v, i64 p.cap, i64 p.used] tPool (0, 0)) := by
    rw [hgr.block b (by simp; omega) (fun h => R.ne h.symm rfl), hp_alloc_old _ _ _ hb]; exact R.top
  have hne : ∀ k, v'.ownBlock = some k → k ≠ b := by
    rintro k hk rfl
    obtain ⟨cur, hc⟩ := hrow.block hk
    rw [ht] at hc
    simp [tPool, tFrame] at hc
  have hfv : ∀ k, v'.ownBlock = some k → fp k ∨ w.heap.size ≤ k := by
    intro k hk
    rcases hown with h | h
    · exact .inl (R.fv k (by rw [← h]; exact hk))
    · rw [hk] at h; cases h; right; simp
  have M1 : Mods fp w w2 := ((Mods.refl fp w).alloc (.cells cs t)).grown hgr (fun k hk => .inl (R.fv k hk))
  refine ⟨⟨(cell_of (o := 0) ht).trans rfl, frozen_of (o := 0) ht⟩, ⟨?_, ?_, ?_, .inl R.fb, fun k hk => .inr hk, ?_⟩, M1.setCell (.inl R.fb) _, hfv⟩
  · rw [hp_setCell_same _ _ _ _ _ _ _ ht]; simp
  · have := hrow.of_block (w' := w2.setCell ⟨b, 0, none⟩ v') (fun k hk _ => hp_setCell_ne _ _ _ _ (hne k hk))
    simpa using this
  · intro f hf
    rcases List.mem_append.1 hf with hf | hf
    · exact R.wf f hf
    · rw [List.mem_singleton.1 hf]; exact hx
  · intro k hk
    rw [World.size_setCell]
    rcases hk with hk | hk
    · have := R.lt k hk; have := M1.size; omega
    · exact hrow.lt hk

theorem PRep.setLast {g off cap n : Nat} {L : List Frm} {cp us : Int} {x y : Frm} (R : PRep w b ⟨L ++ [x], cp, us⟩ (.slice (some ⟨g, off, none⟩) (n + 1) cap) fp) (hn : L.length = n) (hy : y.data.length = 64) :
    PRep (w.setCells g (off + n * 65) (fcells y)) b ⟨L ++ [y], cp, us⟩ (.slice (some ⟨g, off, none⟩) (n + 1) cap) fp ∧ w.there g (off + n * 65) 65 := by
  subst hn
  have hlen : (⟨L ++ [x], cp, us⟩ : Pool).frames.length = L.length + 1 := by simp
  rw [← hlen] at R ⊢
  refine ⟨R.setFrm (p' := ⟨L ++ [y], cp, us⟩) (k := L.length) (x := x) (by simp) hy (by simp) rfl rfl, R.row.there ?_⟩
  rw [hlen]; omega

set_option maxHeartbeats 1000000 in
theorem palloc_calls (R : PRep w b p v fp) (hsm : p.frames.length ≤ 65536) : Calls Try.prog 68 #[ptr b] w (PPost b p.alloc.1 fp (.tuple #[i64 p.alloc.2.1, i64 p.alloc.2.2]) w) := by
  have c0 : w.cell? ⟨b, 0, none⟩ = some v := (cell_of (o := 0) R.top).trans rfl
  have c1 : w.cell? ⟨b, 1, none⟩ = some (i64 p.cap) := (cell_of (o := 1) R.top).trans rfl
  have c2 : w.cell? ⟨b, 2, none⟩ = some (i64 p.used) := (cell_of (o := 2) R.top).trans rfl
  have HR := Lib.hid R
  by_cases hfull : p.used = p.cap
  · have H := Lib.hid (show p.alloc = (p, 0, -4) by simp [Pool.alloc, hfull])
    rw [hfull] at c2
    clear R hfull
    generalize p.cap = cp at *
    go_enter Try.func68, Try.ntmps68
    go_wp2
    go_quiet (fail)
    go_wp2
    go_ret2
    rw [H.out]
    exact ⟨rfl, v, fp, HR.out.keep (by simp) (fun _ _ => rfl), (Mods.refl _ _).drewN _, fun _ h => .inl h⟩
  · have hfb : (p.used == p.cap) = false := by simpa using hfull
    have Hfull := Lib.hid hfull
    have b1 := build_fresh1
    have b0 := build_fresh0
    have bs := built_fresh
    have Hb1 := Lib.hid (fresh_len 1)
    have Hb0 := Lib.hid (fresh_len 0)
    have Ho1 := Lib.hid (fresh_one 1)
    have Ho0 := Lib.hid (fresh_one 0)
    generalize hz1 : fcells (fresh 1) = z1 at *
    generalize hz0 : fcells (fresh 0) = z0 at *
    have Hz1 := Lib.hid hz1
    have Hz0 := Lib.hid hz0
    clear hz1 hz0
    have hif := fun n => ifree_calls (w := w.drewN n) R.wf hsm ((R.keep (w' := w.drewN n) (by simp) (fun _ _ => rfl)).row) (fun k hk => R.lt k (R.fv k hk))
    have Hif := Lib.hid hif
    clear hif
    generalize hus : p.used = us at *
    generalize hcp : p.cap = cp at *
    have Hus := Lib.hid hus
    have Hcp := Lib.hid hcp
    clear hus hcp
    by_cases hneg : Pool.free p.frames < 0
    · have hm1 : Pool.free p.frames = -1 := by
        unfold Pool.free at hneg ⊢
        split at hneg
        · omega
        · rename_i h; simp [h]
      have H := Lib.hid (show p.alloc = ({ p with frames := p.frames ++ [fresh 1], used := wrap64 (us + 1) }, (p.frames.length : Int), 0) by
        unfold Pool.alloc
        rw [if_neg (by rw [Hus.out, Hcp.out]; exact Hfull.out), if_pos hneg, Hus.out])
      rw [hm1] at Hif
      have hbl := R.lt b R.fb
      obtain ⟨av, cv, hv⟩ := R.row.shape
      have Hv := Lib.hid hv
      rw [hv] at c0 Hif
      obtain ⟨i0, hi, hz, hs, hby⟩ := info3 infoFrame
      have Hi := Lib.hid hi
      have Hzz := Lib.hid hz
      have Hs := Lib.hid hs
      have Hby := Lib.hid hby
      rw [Hz0.out] at hz
      have Hzz' := Lib.hid hz
      have Hm := Lib.hid (show p.frames.length + 1 ≤ maxLen by unfold maxLen; omega)
      have Hb := Lib.hid (show (p.frames.length + 1) * 72 ≤ 140737488355328 by omega)
      have HG := Lib.hid (fun (w1 w2 : World) (v' : Value) (R1 : PRep w1 b p (.slice av p.frames.length cv) fp) (hrow : Row w2 tFrame 65 v' (p.frames.length + 1) (p.frames.flatMap fcells ++ z0)) hgr hown =>
        R1.grow (cs := z0.toArray) (t := frameT) (x := fresh 0) (by rw [Hz0.out]; exact hrow) hgr hown (by simp [fresh, zeros]))
      have HL := Lib.hid (fun (w3 : World) (g off cap : Nat) (fp' : Nat → Prop) (R3 : PRep w3 b ⟨p.frames ++ [fresh 0], p.cap, p.used⟩ (.slice (some ⟨g, off, none⟩) (p.frames.length + 1) cap) fp') =>
        (show PRep (w3.setCells g (off + p.frames.length * 65) z1) b ⟨p.frames ++ [fresh 1], p.cap, p.used⟩ (.slice (some ⟨g, off, none⟩) (p.frames.length + 1) cap) fp' ∧ w3.there g (off + p.frames.length * 65) 65 by
          rw [← Hz1.out]; exact R3.setLast rfl (by simp [fresh, zeros])))
      have Hc := Lib.hid (fun (w1 : World) (cap : Value) (fp' : Nat → Prop) (R1 : PRep w1 b ⟨p.frames ++ [fresh 1], p.cap, p.used⟩ cap fp') =>
        (show w1.cell? ⟨b, 2, none⟩ = some (i64 us) ∧ w1.frozen? ⟨b, 2, none⟩ = false from ⟨by rw [← Hus.out]; exact (cell_of (o := 2) R1.top).trans rfl, frozen_of (o := 2) R1.top⟩))
      have HR2 := Lib.hid (show PRep w b p (.slice av p.frames.length cv) fp by rw [← hv]; exact HR.out)
      have HK := Lib.hid (fun (w1 : World) {nq : Nat} (M : Mods (fun _ => False) (w.drewN nq) w1) => (HR2.out.keep (w' := w.drewN nq) (by simp) (fun _ _ => rfl)).mods M (fun _ _ h => h))
      have HSrc := Lib.hid (fun (w1 : World) => Src.fresh w1 65 1 1 z0 frameT Hb0.out Ho0.out)
      have HRow := Lib.hid (fun (w1 : World) (R1 : PRep w1 b p (.slice av p.frames.length cv) fp) => (show Row (w1.alloc (.cells z0.toArray frameT)) tFrame 65 (.slice av p.frames.length cv) p.frames.length (p.frames.flatMap fcells) from
        R1.row.of_block (fun k hk hlt => hp_alloc_old _ _ _ hlt)))
      have HShape := Lib.hid (fun (w2 : World) (v' : Value) (xs : List Value) (n : Nat) (hrow : Row w2 tFrame 65 v' (n + 1) xs) => (show ∃ g off cap, v' = .slice (some ⟨g, off, none⟩) (n + 1) cap by
        rcases hrow.2 with ⟨_, h⟩ | ⟨g, off, cap, cur, h, _⟩
        · omega
        · exact ⟨g, off, cap, h⟩))
      clear R hneg hm1 hfull hv hi hz hs hby
      generalize hnn : p.frames.length = n at *
      have Hnn := Lib.hid hnn
      clear hnn
      go_enter Try.func68, Try.ntmps68
      go_wp2
      go_quiet (fail)
      go_wp2_with (first
        | (go_at_call 95; refine (Hif.out _).mono ?_; rintro e w1 ⟨rfl, hM⟩; have HM := Lib.hid hM; have HR1 := Lib.hid (HK.out _ hM); have c0' := (hM.cell (p := ⟨b, 0, none⟩) hbl (fun h => h)).trans c0; clear hM)
        | (refine wp_built_fresh rfl (.tmp 30) rfl rfl ?_; rw [Hz0.out])
        | (at_builtin; refine wpList_append_row (v := .slice av n cv) rfl (.tmp 29) (.tmp 31) 108 rfl tFrame i0 (.agg z0.toArray) 65 72 Try.underlying108 Hi.out Hzz'.out Hs.out Hby.out Hb0.out (by decide) rfl (HRow.out _ HR1.out) rfl (HSrc.out _) Hm.out Hb.out ?_; intro v' w2 hrow hgr hblk hz; obtain ⟨⟨c0'', f0''⟩, hP, hM2, hfr⟩ := HG.out _ _ _ HR1.out hrow hgr hblk; obtain ⟨g, off, cap, rfl⟩ := HShape.out _ _ _ _ hrow; have HP := Lib.hid hP; have HM2 := Lib.hid hM2; have Hfr := Lib.hid hfr; clear hrow hgr hblk hz hP hM2 hfr)
        | (obtain ⟨hset, ht⟩ := HL.out _ _ _ _ _ HP.out; refine wpList_store_mid rfl frameT (.tmp 41) (.tmp 40) rfl g (off + n * 65) zc1 rfl rfl (by rw [zc1_size]; exact ht) (by rw [zc1_size]; exact frame_size) zc1_one ?_; clear ht; rw [zc1_list, Hz1.out]; obtain ⟨c2'', f2''⟩ := Hc.out _ _ _ hset; have HW := Lib.hid hset; have HM3 := Lib.hid (HM2.out.trans (setCells_mods g z1 (off + n * 65) _) (fun i hi => by subst hi; exact Hfr.out _ rfl)); clear hset; generalize World.setCells (World.setCell w2 _ _) _ _ _ = w3 at *))
      go_ret2
      rw [H.out]
      refine ⟨rfl, _, _, HW.out.setTop 2 _ _ _ rfl ?_ rfl, (((Mods.refl fp w).drewN nq).trans (HM.out.mono (fun _ h => h.elim)) (fun _ h => .inl h)).trans HM3.out (fun _ h => .inl h) |>.setCell (.inl HR2.out.fb) _, fun k hk => ?_⟩
      · simp
      · rcases hk with hk | hk
        · exact .inl hk
        · rcases Hfr.out k hk with h | h
          · exact .inl h
          · right; have := HM.out.size; simp at this; omega
    · obtain ⟨k, hk⟩ : ∃ k : Nat, Pool.free p.frames = k := ⟨(Pool.free p.frames).toNat, by omega⟩
      have H := Lib.hid (show p.alloc = ({ p with frames := p.frames.set k (fresh 1), used := wrap64 (us + 1) }, (k : Int), 0) by
        unfold Pool.alloc
        rw [if_neg (by rw [Hus.out, Hcp.out]; exact Hfull.out), if_neg hneg, hk, Hus.out]; rfl)
      rw [hk] at Hif
      have hklt := Pool.free_lt hk
      obtain ⟨x, hx⟩ : ∃ x, p.frames[k]? = some x := ⟨_, List.getElem?_eq_getElem hklt⟩
      rcases R.row.2 with ⟨rfl, h'⟩ | ⟨g, off, cap, cur, rfl, _⟩
      · omega
      have hne := R.ne (k := g) rfl
      have hbl := R.lt b R.fb
      have Hx := Lib.hid hx
      have Hset := Lib.hid (fun (w1 : World) (R1 : PRep w1 b p (.slice (some ⟨g, off, none⟩) p.frames.length cap) fp) =>
        (show PRep (w1.setCells g (off + k * 65) z1) b { p with frames := p.frames.set k (fresh 1) } (.slice (some ⟨g, off, none⟩) p.frames.length cap) fp by
          rw [← Hz1.out]
          exact R1.setFrm hx (by simp [fresh, zeros]) rfl rfl rfl))
      have Hmm := Lib.hid (fun (w1 : World) {nq : Nat} (M : Mods (fun _ => False) (w.drewN nq) w1) =>
        (show Mods fp w (w1.setCells g (off + k * 65) z1) from
          (((Mods.refl fp w).drewN nq).trans M (fun _ h => h.elim)).trans (setCells_mods g z1 (off + k * 65) w1) (fun i hi => by subst hi; exact .inl (HR.out.fv _ rfl))))
      have Hc := Lib.hid (fun (w1 : World) (R1 : PRep w1 b { p with frames := p.frames.set k (fresh 1) } (.slice (some ⟨g, off, none⟩) p.frames.length cap) fp) =>
        (show w1.cell? ⟨b, 2, none⟩ = some (i64 us) ∧ w1.frozen? ⟨b, 2, none⟩ = false from ⟨by rw [← Hus.out]; exact (cell_of (o := 2) R1.top).trans rfl, frozen_of (o := 2) R1.top⟩))
      clear R hneg hk hx hfull
      go_enter Try.func68, Try.ntmps68
      go_wp2
      go_quiet (fail)
      go_wp2_with (first
        | (go_at_call 95; refine (Hif.out _).mono ?_; rintro e w1 ⟨rfl, hM⟩; have HM := Lib.hid hM; have c0' := (hM.cell (p := ⟨b, 0, none⟩) hbl (fun h => h)).trans c0; clear hM)
        | (have HR1 := Lib.hid ((HR.out.keep (w' := w.drewN nq) (by simp) (fun _ _ => rfl)).mods HM.out (fun _ _ h => h)); have ht := HR1.out.row.there (k := k * 65) (m := 65) (by have := Nat.mul_le_mul_right 65 hklt; omega); refine wpList_store_mid rfl frameT (.tmp 41) (.tmp 40) rfl g (off + k * 65) zc1 rfl rfl (by rw [zc1_size]; exact ht) (by rw [zc1_size]; exact frame_size) zc1_one ?_; clear ht; rw [zc1_list, Hz1.out]; have HW := Lib.hid (Hset.out _ HR1.out); have MM := Lib.hid (Hmm.out _ HM.out); obtain ⟨c2'', f2''⟩ := Hc.out _ HW.out; generalize w1.setCells g (off + k * 65) z1 = w2 at *))
      go_ret2
      rw [H.out]
      refine ⟨rfl, _, fp, HW.out.setTop 2 _ _ _ rfl ?_ rfl, MM.out.setCell (.inl HR.out.fb) _, fun _ h => .inl h⟩
      simp
end
end Go.Proofs.Ytkifgoadbnpofaa
