/- The walk of layer 18's worklist: sweep. -/
import Derived.Test.YtkifgoadbnpofaaDoorObjF
import Derived.Deep.LoopGhost
namespace Go.Proofs.YtkifgoadbnpofaaDoor
open Go Go.RowKit
set_option maxRecDepth 100000

structure SweepRel (w0 : World) (o : Nat) (S : Obs) (fp : Nat → Prop) (m : Nat) (blk : Int → Nat) (bg : Int → Value) (all : Obs × List Ev) (v1 v4 : Value) (wr : World) (T : Obs) (work : List Int) (out : List Ev) : Prop where
  r1 : Row wr tInt 1 v1 work.length (work.map i64)
  b1 : ∀ k, v1.ownBlock = some k → w0.heap.size ≤ k
  r4 : Row wr tEv 3 v4 out.length (out.flatMap evCells)
  b4 : ∀ k, v4.ownBlock = some k → w0.heap.size ≤ k
  rep : ORep wr o T fp m blk bg
  mods : Mods fp w0 wr
  eq : all = ((T.sweep work).1, out ++ (T.sweep work).2)
  sm : work.length + weight T.all ≤ 1099511627776
  so : out.length + 2 * weight T.all ≤ 4398046511104
  old : ∀ k, fp k → k < w0.heap.size

theorem infoEv : (Tryd.prog.info? tEv).map (fun i => (i.zero, i.size, i.bytes)) = some (some (.agg #[.int .i64 0, .bool false, .int .i64 0]), 3, 24) := by kernel_rfl

/-- In the middle of a round in which id, whose header is h, has ended: T is what is left, out what was told. -/
structure Mid (w0 : World) (o : Nat) (fp : Nat → Prop) (m : Nat) (blk : Int → Nat) (bg : Int → Value) (id : Int) (h : Hdr) (work : List Int) (v1 : Value) (T : Obs) (out : List Ev) (v4 : Value) (W : World) : Prop where
  r1 : Row W tInt 1 v1 work.length (work.map i64)
  b1 : ∀ k, v1.ownBlock = some k → w0.heap.size ≤ k
  r4 : Row W tEv 3 v4 out.length (out.flatMap evCells)
  b4 : ∀ k, v4.ownBlock = some k → w0.heap.size ≤ k
  rep : ORep W o T fp m blk bg
  mods : Mods fp w0 W
  hdr : W.heap[blk id]? = some (.cells (hcells h (bg id)) tHdr (0, 0))
  bag : Row W tInt 1 (bg id) h.bag.length (h.bag.map i64)
  old : ∀ k, fp k → k < w0.heap.size
  fid : fp (blk id)
  fbag : ∀ k, (bg id).ownBlock = some k → fp k
  ne : ∀ c x, T.at c = some x → blk c ≠ blk id

section
variable {w0 : World} {o : Nat} {fp : Nat → Prop} {m : Nat} {blk : Int → Nat} {bg : Int → Value} {id : Int} {h : Hdr} {work : List Int} {v1 : Value} {T : Obs} {out : List Ev} {v4 : Value} {W : World}
theorem Mid.ne14 (M : Mid w0 o fp m blk bg id h work v1 T out v4 W) {k : Nat} (h1 : v1.ownBlock = some k) : v4.ownBlock ≠ some k := by
  intro h4
  obtain ⟨c1, e1⟩ := M.r1.block h1
  obtain ⟨c4, e4⟩ := M.r4.block h4
  rw [e1] at e4
  simp [tInt, tEv] at e4
/-- Nothing of it was written but the blocks of F, which it does not touch. -/
theorem Mid.keep (M : Mid w0 o fp m blk bg id h work v1 T out v4 W) {W' : World} {F : Nat → Prop} (hm : Mods F W W') (hF : ∀ k, F k → ¬ fp k ∧ v1.ownBlock ≠ some k ∧ v4.ownBlock ≠ some k ∧ w0.heap.size ≤ k) :
    Mid w0 o fp m blk bg id h work v1 T out v4 W' where
  r1 := M.r1.mods hm (fun k hk hf => (hF k hf).2.1 hk)
  b1 := M.b1
  r4 := M.r4.mods hm (fun k hk hf => (hF k hf).2.2.1 hk)
  b4 := M.b4
  rep := M.rep.mods hm (fun k hk hf => (hF k hf).1 hk)
  mods := M.mods.trans hm (fun k hf => .inr (hF k hf).2.2.2)
  hdr := by rw [hm.block _ (M.rep.lt _ M.fid) (fun hf => (hF _ hf).1 M.fid)]; exact M.hdr
  bag := M.bag.mods hm (fun k hk hf => (hF k hf).1 (M.fbag k hk))
  old := M.old
  fid := M.fid
  fbag := M.fbag
  ne := M.ne
theorem Mid.alloc (M : Mid w0 o fp m blk bg id h work v1 T out v4 W) (x : Obj) : Mid w0 o fp m blk bg id h work v1 T out v4 (W.alloc x) :=
  M.keep (F := fun _ => False) ((Mods.refl _ _).alloc x) (fun _ h => h.elim)
theorem Mid.drewN (M : Mid w0 o fp m blk bg id h work v1 T out v4 W) (n : Nat) : Mid w0 o fp m blk bg id h work v1 T out v4 (W.drewN n) :=
  M.keep (F := fun _ => False) ((Mods.refl _ _).drewN n) (fun _ h => h.elim)
/-- More was told. -/
theorem Mid.tell (M : Mid w0 o fp m blk bg id h work v1 T out v4 W) {W' : World} {v : Value} {evs : List Ev} {n : Nat} {xs : List Value} (hr : Row W' tEv 3 v n xs) (hn : n = (out ++ evs).length) (hx : xs = (out ++ evs).flatMap evCells)
    (hg : W.grownBy W' v4.ownBlock) (hb : v.ownBlock = v4.ownBlock ∨ v.ownBlock = some W.heap.size) : Mid w0 o fp m blk bg id h work v1 T (out ++ evs) v W' := by
  subst hn; subst hx
  have hm : Mods (fun k => v4.ownBlock = some k) W W' := (Mods.refl _ _).grown hg (fun k hk => .inl hk)
  have hsz := M.mods.size
  have hF : ∀ k, v4.ownBlock = some k → ¬ fp k := fun k hk hf => by have := M.b4 k hk; have := M.old k hf; omega
  exact {
    r1 := M.r1.mods hm (fun k hk hf => M.ne14 hk hf)
    b1 := M.b1
    r4 := hr
    b4 := fun k hk => by
      rcases hb with e | e
      · exact M.b4 k (e.symm.trans hk)
      · have := e.symm.trans hk
        simp only [Option.some.injEq] at this
        omega
    rep := M.rep.mods hm (fun k hk hf => hF k hf hk)
    mods := M.mods.trans hm (fun k hf => .inr (M.b4 k hf))
    hdr := by rw [hm.block _ (M.rep.lt _ M.fid) (fun hf => hF _ hf M.fid)]; exact M.hdr
    bag := M.bag.mods hm (fun k hk hf => hF k hf (M.fbag k hk))
    old := M.old
    fid := M.fid
    fbag := M.fbag
    ne := M.ne }
/-- More work. -/
theorem Mid.more (M : Mid w0 o fp m blk bg id h work v1 T out v4 W) {W' : World} {v : Value} {l : List Int} {n : Nat} {xs : List Value} (hr : Row W' tInt 1 v n xs) (hn : n = (work ++ l).length) (hx : xs = (work ++ l).map i64)
    (hg : W.grownBy W' v1.ownBlock) (hb : v.ownBlock = v1.ownBlock ∨ v.ownBlock = some W.heap.size) : Mid w0 o fp m blk bg id h (work ++ l) v T out v4 W' := by
  subst hn; subst hx
  have hm : Mods (fun k => v1.ownBlock = some k) W W' := (Mods.refl _ _).grown hg (fun k hk => .inl hk)
  have hsz := M.mods.size
  have hF : ∀ k, v1.ownBlock = some k → ¬ fp k := fun k hk hf => by have := M.b1 k hk; have := M.old k hf; omega
  exact {
    r1 := hr
    b1 := fun k hk => by
      rcases hb with e | e
      · exact M.b1 k (e.symm.trans hk)
      · have := e.symm.trans hk
        simp only [Option.some.injEq] at this
        omega
    r4 := M.r4.mods hm (fun k hk hf => M.ne14 hf hk)
    b4 := M.b4
    rep := M.rep.mods hm (fun k hk hf => hF k hf hk)
    mods := M.mods.trans hm (fun k hf => .inr (M.b1 k hf))
    hdr := by rw [hm.block _ (M.rep.lt _ M.fid) (fun hf => hF _ hf M.fid)]; exact M.hdr
    bag := M.bag.mods hm (fun k hk hf => hF k hf (M.fbag k hk))
    old := M.old
    fid := M.fid
    fbag := M.fbag
    ne := M.ne }
/-- Headers of others were written, inside fp. -/
theorem Mid.rest (M : Mid w0 o fp m blk bg id h work v1 T out v4 W) {W' : World} {T' : Obs} {F : Nat → Prop} (hR : ORep W' o T' fp m blk bg) (hm : Mods F W W') (hF : ∀ k, F k → fp k ∧ ∃ c x, T.at c = some x ∧ k = blk c)
    (hat : ∀ c x, T'.at c = some x → ∃ y, T.at c = some y) : Mid w0 o fp m blk bg id h work v1 T' out v4 W' where
  r1 := M.r1.mods hm (fun k hk hf => by have := M.b1 k hk; have := M.old k (hF k hf).1; omega)
  b1 := M.b1
  r4 := M.r4.mods hm (fun k hk hf => by have := M.b4 k hk; have := M.old k (hF k hf).1; omega)
  b4 := M.b4
  rep := hR
  mods := M.mods.trans hm (fun k hf => .inl (hF k hf).1)
  hdr := by
    rw [hm.block _ (M.rep.lt _ M.fid) (fun hf => by obtain ⟨_, c, x, hc, e⟩ := hF _ hf; exact M.ne c x hc e.symm)]; exact M.hdr
  bag := M.bag.mods hm (fun k hk hf => by
    obtain ⟨_, c, x, hc, e⟩ := hF _ hf
    obtain ⟨cur, e1⟩ := M.bag.block hk
    have e2 := M.rep.hdr _ (get_mem hc)
    simp only at e2
    rw [← e, e1] at e2
    simp [tInt, tHdr] at e2)
  old := M.old
  fid := M.fid
  fbag := M.fbag
  ne := fun c x hc => by obtain ⟨y, hy⟩ := hat c x hc; exact M.ne c y hy
end

/-- The round's first part: id is struck from the map. -/
theorem SweepRel.mid {w0 : World} {o : Nat} {S : Obs} {fp : Nat → Prop} {m : Nat} {blk : Int → Nat} {bg : Int → Value} {all : Obs × List Ev} {v1 v4 vt : Value} {wr : World} {T : Obs} {id : Int} {rest : List Int} {out : List Ev}
    (H : SweepRel w0 o S fp m blk bg all v1 v4 wr T (id :: rest) out) {h : Hdr} (hg : T.at id = some h) (hrt : Row wr tInt 1 vt rest.length (rest.map i64)) (hbt : vt.ownBlock = v1.ownBlock) (n : Nat) :
    Mid w0 o fp m blk bg id h rest vt (T.del id) out v4 (mDel (wr.drewN n) m id) := by
  have hm : Mods (fun k => k = m) wr (mDel (wr.drewN n) m id) := ((Mods.refl (fun k => k = m) wr).drewN n).mDel (.inl rfl) id
  have hmem := get_mem hg
  have R := H.rep
  have hnm : ∀ k, k < wr.heap.size → k ≠ m → (mDel (wr.drewN n) m id).heap[k]? = wr.heap[k]? := fun k hk h' => hm.block k hk h'
  exact {
    r1 := hrt.mods hm (fun k hk hf => by subst hf; have := H.b1 _ (hbt.symm.trans hk); have := H.old _ R.fm; omega)
    b1 := fun k hk => H.b1 k (hbt.symm.trans hk)
    r4 := H.r4.mods hm (fun k hk hf => by subst hf; have := H.b4 _ hk; have := H.old _ R.fm; omega)
    b4 := H.b4
    rep := R.del (by simp) hnm ((MapAt_drewN.2 R.map).del id)
    mods := H.mods.trans hm (fun k hf => .inl (by subst hf; exact R.fm))
    hdr := by rw [hnm _ (R.lt _ (R.fh _ hmem)) (R.m_ne hmem)]; exact R.hdr _ hmem
    bag := (R.bag _ hmem).mods hm (fun k hk hf => R.bag_ne_m hmem hk hf)
    old := H.old
    fid := R.fh _ hmem
    fbag := R.fb _ hmem
    ne := fun c x hc => by
      have hc' := get_mem hc
      have := (mem_del R.nodup (k := id)).1 hc'
      exact fun e => this.2 (R.inj _ this.1 _ hmem e) }

section
variable {w : World} {o : Nat} {S : Obs} {fp : Nat → Prop} {m : Nat} {blk : Int → Nat} {bg : Int → Value}

set_option maxHeartbeats 2000000 in
theorem sweep_calls (R : ORep w o S fp m blk bg) {v : Value} {ids : List Int} (hids : IntsAt w v ids) (hown : ∀ k, v.ownBlock = some k → k < w.heap.size) (hsm : ids.length + weight S.all ≤ 1099511627776) :
    Calls Tryd.prog 25 #[ptr o, v] w (TellsPost w o (S.sweep ids).1 fp m blk bg fp (S.sweep ids).2) := by
  have Hcl := Lib.hid (clone_calls hids hown (by omega))
  have HR := Lib.hid R
  clear hids R hown
  generalize hall : S.sweep ids = all
  have Hall := Lib.hid hall
  clear hall
  go_enter Tryd.func25, Tryd.ntmps25
  go_wp2_with (go_at_call 30; refine Hcl.out.mono ?_; rintro e w1 ⟨v1, rfl, hrow, hfr, hmod⟩; have Hrow := Lib.hid hrow; have Hfr := Lib.hid hfr; have Hmod := Lib.hid hmod; clear hrow hfr hmod)
  go_loopg [1, 4] (ids.length + weight S.all) (fun g v1 v4 wr => ∃ T work out, SweepRel w o S fp m blk bg all v1 v4 wr T work out ∧ work.length + weight T.all = g)
  case atStart =>
    refine ⟨S, ids, [], ⟨Hrow.out, Hfr.out, Row.nil _ _ _, (fun k h => by cases h), HR.out.mods Hmod.out (fun _ _ h => h), Hmod.out.mono (fun _ h => h.elim), ?_, hsm, by simp; omega, HR.out.lt⟩, rfl⟩
    rw [← Hall.out]; rfl
  case round =>
    obtain ⟨T, work, out, hR, rfl⟩ := hrel
    have H := Lib.hid hR
    cases work with
    | nil =>
      obtain ⟨a1, c1, rfl⟩ := hR.r1.shape
      clear hR
      go_wp2
      go_ret
      have e1 := H.out.eq
      rw [sweep_nil] at e1
      simp only [List.append_nil] at e1
      rw [e1]
      exact ⟨_, rfl, H.out.r4, H.out.b4, H.out.rep, H.out.mods⟩
    | cons id rest =>
      obtain ⟨vt, hcut, hrt, hbt⟩ := run_slice_tail (P := Tryd.prog) Tryd.underlying47 Tryd.sizeOf3 hR.r1 1 (by simp)
      obtain ⟨a1, c1, rfl⟩ := hR.r1.shape
      have hrd : ∃ g1 off1, a1 = some ⟨g1, off1, none⟩ ∧ wr.cell? ⟨g1, off1, none⟩ = some (.int .i64 id) := by
        rcases hR.r1.2 with ⟨h, h'⟩ | ⟨g1, off1, cap1, cur, h, _⟩
        · simp at h'
        · cases h
          exact ⟨g1, off1, rfl, by have := hR.r1.cells 0 (i64 id) (by simp); simpa using this⟩
      obtain ⟨g1, off1, rfl, hce⟩ := hrd
      simp only [List.length_cons, List.map_cons, Nat.add_sub_cancel, Nat.mul_one, List.drop_succ_cons, List.drop_zero] at hcut hrt
      have Hrt := Lib.hid hrt
      have Hbt := Lib.hid hbt
      have hcut' : ∀ W, Sem.run Tryd.prog (Instr.slice 47 (.slice (some ⟨g1, off1, none⟩) (rest.length + 1) c1) (some (.int .i64 1)) none none) W = .ok vt W := hcut
      clear hcut
      have c0 : wr.cell? ⟨o, 0, none⟩ = some (.map (some m)) := (cell_of (o := 0) hR.rep.top).trans rfl
      have hM := hR.rep.map
      have hk := hR.rep.look id
      have hl := lookups m (T.all.map fun p => (p.1, ptr (blk p.1)))
      have hdel := deletes m (T.all.map fun p => (p.1, ptr (blk p.1)))
      generalize (T.all.map fun p => (p.1, ptr (blk p.1))) = L at hM hk hl hdel
      cases hg : T.at id with
      | none =>
        have Hsk := Lib.hid (sweep_skip (S := T) (id := id) (rest := rest) (fun x hx => by rw [hg] at hx; cases hx))
        rw [hg] at hk
        clear hR hrt hbt hg
        go_wp2
        go_roundg (rest.length + weight T.all)
        case measure => simp
        case rel =>
          exact ⟨T, rest, out, ⟨Hrt.out, fun k hk => H.out.b1 k (Hbt.out.symm.trans hk), H.out.r4, H.out.b4, H.out.rep, H.out.mods, by rw [← Hsk.out]; exact H.out.eq, by have := H.out.sm; simp only [List.length_cons] at this; omega, H.out.so, H.out.old⟩, rfl⟩
      | some h =>
        have hh := hR.rep.hdr _ (get_mem hg)
        simp only at hh
        have Hh := Lib.hid hh
        have Hg := Lib.hid hg
        rw [hg] at hk
        cases hhd : h.held with
        | true =>
          have Hsk := Lib.hid (sweep_skip (S := T) (id := id) (rest := rest) (fun x hx => by rw [hg] at hx; cases hx; exact hhd))
          clear hR hrt hbt hg hh
          go_wp2_with (go_at_call 33; refine (held_calls Hh.out).mono ?_; rintro e w2 ⟨rfl, n, rfl⟩; rw [hhd])
          go_roundg (rest.length + weight T.all)
          case measure => simp
          case rel =>
            exact ⟨T, rest, out, ⟨Hrt.out, fun k hk => H.out.b1 k (Hbt.out.symm.trans hk), H.out.r4, H.out.b4, H.out.rep.keep (by simp) (fun _ _ => rfl), H.out.mods.drewN _, by rw [← Hsk.out]; exact H.out.eq, by have := H.out.sm; simp only [List.length_cons] at this; omega, H.out.so, H.out.old⟩, rfl⟩
        | false =>
          have Hend := Lib.hid (sweep_end (rest := rest) hg hhd)
          have Hw := Lib.hid (end_weight hg)
          have HM0 := Lib.hid (fun n => H.out.mid hg hrt hbt n)
          obtain ⟨e0, hei, hez0, hez1, hez2⟩ := info_parts infoEv
          have Hm1 := Lib.hid (show out.length + 1 ≤ maxLen by have := H.out.so; unfold maxLen; omega)
          have Hb1 := Lib.hid (show (out.length + 1) * 24 ≤ 140737488355328 by have := H.out.so; omega)
          have Hrow4 := Lib.hid (fun n => ((HM0.out n).alloc (.cells #[.int .i64 id, .bool true, .int .i64 0] tEv)).r4)
          have Hsrc4 := Lib.hid (fun n => (by
            have := Src.fresh (mDel (wr.drewN n) m id) 3 1 1 [i64 id, .bool true, i64 0] tEv rfl (by simp [i64, Value.oneCell'])
            rw [mapDel_size] at this; exact this :
            Src ((mDel (wr.drewN n) m id).alloc (.cells #[.int .i64 id, .bool true, .int .i64 0] tEv)) 3 (.slice (some ⟨wr.heap.size, 0, none⟩) 1 1) 1 [i64 id, .bool true, i64 0]))
          clear hR hrt hbt hg hh
          go_wp2_with (first
            | (go_at_call 33; refine (held_calls Hh.out).mono ?_; rintro e w2 ⟨rfl, n, rfl⟩; rw [hhd])
            | (at_builtin; refine wpList_append_row (v := u4) rfl (.tmp 38) (.tmp 41) 30 rfl tEv e0 (.agg #[.int .i64 0, .bool false, .int .i64 0]) 3 24 Tryd.underlying30 hei hez0 hez1 hez2 rfl (by decide) rfl (Hrow4.out _) rfl (Hsrc4.out _) Hm1.out Hb1.out ?_; intro v5 w3 hrow hgr hblk hz; have HM1 := Lib.hid (((HM0.out n).alloc (.cells #[.int .i64 id, .bool true, .int .i64 0] tEv)).tell (evs := [⟨id, true, 0⟩]) hrow (by simp) (by simp [evCells]) hgr hblk); clear hrow hgr hblk hz))
          have M1 := HM1.out
          have c0' : w3.cell? ⟨o, 0, none⟩ = some (.map (some m)) := (cell_of (o := 0) M1.rep.top).trans rfl
          have cP : w3.cell? ⟨blk id, 1, none⟩ = some (.int .i64 h.peer) := (cell_of (o := 1) M1.hdr).trans rfl
          have cB : w3.cell? ⟨blk id, 8, none⟩ = some (bg id) := (cell_of (o := 8) M1.hdr).trans rfl
          obtain ⟨ab, cb, hbg⟩ := M1.bag.shape
          rw [hbg] at cB
          have Hbg := Lib.hid hbg
          clear hbg c0 hM hk hl hdel hce hcut'
          have hM2 := M1.rep.map
          have hk2 := M1.rep.look h.peer
          have hl2 := lookups m ((T.del id).all.map fun p => (p.1, ptr (blk p.1)))
          generalize ((T.del id).all.map fun p => (p.1, ptr (blk p.1))) = L2 at hM2 hk2 hl2
          obtain ⟨T2, ev2, hun⟩ : ∃ T2 ev2, (T.del id).unpeer h.peer = (T2, ev2) := ⟨_, _, rfl⟩
          have Heo := Lib.hid (show T.endOne id h = (h.bag.foldl Obs.drop1 T2, ⟨id, true, 0⟩ :: ev2, h.bag.filter fun c => (T2.at c).isSome) by simp only [Obs.endOne, hun, drops_eq])
          cases hp : (T.del id).at h.peer with
          | none =>
            have hun' : (T.del id).unpeer h.peer = (T.del id, []) := by simp [Obs.unpeer, hp]
            have HE := Lib.hid (show T.del id = T2 ∧ [] = ev2 by rw [hun'] at hun; exact ⟨congrArg Prod.fst hun, congrArg Prod.snd hun⟩)
            rw [hp] at hk2
            clear M1 hp hun' hun
            go_quiet (fail)
            go_wp2
            have HM2 := Lib.hid (by rw [← HE.out.1, ← HE.out.2]; exact HM1.out.drewN nq : Mid w o fp m blk bg id h rest vt T2 (out ++ (⟨id, true, 0⟩ :: ev2)) v5 (w3.drewN nq))
            go_loopg [1, 73] h.bag.length (fun g v1 i wr => ∃ k : Nat, k ≤ h.bag.length ∧ i = .int .i64 k ∧ h.bag.length - k = g ∧
              Mid w o fp m blk bg id h (rest ++ (h.bag.take k).filter fun c => (T2.at c).isSome) v1 ((h.bag.take k).foldl Obs.drop1 T2) (out ++ (⟨id, true, 0⟩ :: ev2)) v5 wr)
            case atStart => exact ⟨0, Nat.zero_le _, rfl, rfl, by simpa using HM2.out⟩
            case round =>
              obtain ⟨k, hkl, rfl, rfl, hMk⟩ := hrel
              have HMk := Lib.hid hMk
              have hbl : h.bag.length ≤ 1099511627776 := by have := H.out.sm; have := Hw.out.1; omega
              by_cases hlt : k < h.bag.length
              · have hin : IntsAt wr (bg id) h.bag := IntsAt.ofRow hMk.bag (by have := H.out.sm; have := Hw.out.1; unfold maxLen; omega)
                rw [Hbg.out] at hin
                obtain ⟨ab', cb', he, _, hr⟩ := hin
                cases he
                obtain ⟨gb, offb, rfl, _, hcell⟩ := hr (by omega)
                have hce := hcell k hlt
                clear hcell hr
                have Hst := Lib.hid (fold_take Obs.drop1 T2 hlt)
                have Htk := Lib.hid (take_nth hlt)
                have c0 : wr.cell? ⟨o, 0, none⟩ = some (.map (some m)) := (cell_of (o := 0) hMk.rep.top).trans rfl
                have hM := hMk.rep.map
                have hk := hMk.rep.look (nth h.bag k)
                have hl := lookups m (((h.bag.take k).foldl Obs.drop1 T2).all.map fun p => (p.1, ptr (blk p.1)))
                generalize (((h.bag.take k).foldl Obs.drop1 T2).all.map fun p => (p.1, ptr (blk p.1))) = L at hM hk hl
                have Hsome := Lib.hid (foldl_drop_at (h.bag.take k) T2 (nth h.bag k))
                cases hy : ((h.bag.take k).foldl Obs.drop1 T2).at (nth h.bag k) with
                | none =>
                  have Hno := Lib.hid (show (T2.at (nth h.bag k)).isSome = false by rw [← Hsome.out, hy]; rfl)
                  have Hd1 := Lib.hid (show ((h.bag.take k).foldl Obs.drop1 T2).drop1 (nth h.bag k) = (h.bag.take k).foldl Obs.drop1 T2 by simp [Obs.drop1, hy])
                  rw [hy] at hk
                  clear hMk hy
                  generalize nth h.bag k = c at *
                  go_wp2
                  go_roundg (h.bag.length - (k + 1))
                  case measure => omega
                  case rel =>
                    refine ⟨k + 1, by omega, by go_num, rfl, ?_⟩
                    rw [Hst.out, Hd1.out, Htk.out, List.filter_append]
                    simp only [List.filter_cons, Hno.out, List.filter_nil, List.append_nil, Bool.false_eq_true, if_false]
                    exact HMk.out
                | some y =>
                  have Hyes := Lib.hid (show (T2.at (nth h.bag k)).isSome = true by rw [← Hsome.out, hy]; rfl)
                  have Hd1 := Lib.hid (show ((h.bag.take k).foldl Obs.drop1 T2).drop1 (nth h.bag k) = ((h.bag.take k).foldl Obs.drop1 T2).set (nth h.bag k) { y with carried := wrap64 (y.carried - 1) } by simp [Obs.drop1, hy])
                  rw [hy] at hk
                  have hh := hMk.rep.hdr _ (get_mem hy)
                  have hx : fp (blk (nth h.bag k)) := hMk.rep.fh _ (get_mem hy)
                  simp only at hh
                  have c4 : wr.cell? ⟨blk (nth h.bag k), 4, none⟩ = some (.int .i64 y.carried) := (cell_of (o := 4) hh).trans rfl
                  have f4 : wr.frozen? ⟨blk (nth h.bag k), 4, none⟩ = false := frozen_of hh
                  have e1 := hp_setCell_same wr (blk (nth h.bag k)) 4 (.int .i64 (wrap64 (y.carried - 1))) _ _ _ hh
                  have Hset := Lib.hid (hMk.rest (W' := wr.setCell ⟨blk (nth h.bag k), 4, none⟩ (.int .i64 (wrap64 (y.carried - 1)))) (F := fun k' => k' = blk (nth h.bag k))
                    (T' := ((h.bag.take k).foldl Obs.drop1 T2).set (nth h.bag k) { y with carried := wrap64 (y.carried - 1) })
                    (hMk.rep.set hy (by simp) (fun k' _ hk' => hp_setCell_ne _ _ _ _ hk') e1 rfl) ((Mods.refl (fun k' => k' = blk (nth h.bag k)) wr).setCell (p := ⟨blk (nth h.bag k), 4, none⟩) (.inl rfl) _) (fun k' hk' => by subst hk'; exact ⟨hx, _, _, hy, rfl⟩)
                    (fun c x hc => by
                      rw [at_set] at hc
                      by_cases e : nth h.bag k = c
                      · subst e; exact ⟨_, hy⟩
                      · rw [if_neg e] at hc; exact ⟨_, hc⟩))
                  have Hrw := Lib.hid ((Hset.out.alloc (.cells #[.int .i64 (nth h.bag k)] tInt)).r1)
                  have Hsw := Lib.hid (by
                    have := Src.fresh (wr.setCell ⟨blk (nth h.bag k), 4, none⟩ (.int .i64 (wrap64 (y.carried - 1)))) 1 1 1 [i64 (nth h.bag k)] tInt rfl (by simp [i64, Value.oneCell'])
                    rw [World.size_setCell] at this; exact this :
                    Src ((wr.setCell ⟨blk (nth h.bag k), 4, none⟩ (.int .i64 (wrap64 (y.carried - 1)))).alloc (.cells #[.int .i64 (nth h.bag k)] tInt)) 1 (.slice (some ⟨wr.heap.size, 0, none⟩) 1 1) 1 [i64 (nth h.bag k)])
                  have hfl : ((h.bag.take k).filter fun c => (T2.at c).isSome).length ≤ h.bag.length := by
                    have h1 := List.length_filter_le (fun c => (T2.at c).isSome) (h.bag.take k)
                    have h2 := List.length_take_le k h.bag
                    have h3 : (h.bag.take k).length ≤ h.bag.length := by rw [List.length_take]; omega
                    omega
                  have hsmall : (rest ++ (h.bag.take k).filter fun c => (T2.at c).isSome).length + 1 ≤ 1099511627777 := by
                    have := H.out.sm
                    have := Hw.out.1
                    simp only [List.length_cons] at *
                    rw [List.length_append]
                    omega
                  have Hm2 := Lib.hid (show (rest ++ (h.bag.take k).filter fun c => (T2.at c).isSome).length + 1 ≤ maxLen by unfold maxLen; omega)
                  have Hb2 := Lib.hid (show ((rest ++ (h.bag.take k).filter fun c => (T2.at c).isSome).length + 1) * 8 ≤ 140737488355328 by omega)
                  obtain ⟨i0, hi, hz0, hz1, hz2⟩ := info_parts infoInt
                  clear hMk hy hh e1 hfl hsmall
                  generalize nth h.bag k = c at *
                  go_wp2_with (at_builtin; refine wpList_append_row (v := u1) rfl (.tmp 94) (.tmp 96) 47 rfl tInt i0 (.int .i64 0) 1 8 Tryd.underlying47 hi hz0 hz1 hz2 rfl (by decide) rfl Hrw.out rfl Hsw.out Hm2.out Hb2.out ?_; intro v9 w9 hrow hgr hblk hz; have HM9 := Lib.hid ((Hset.out.alloc (.cells #[.int .i64 c] tInt)).more (l := [c]) hrow (by simp only [List.length_append, List.length_cons, List.length_nil, Nat.zero_add]) (by simp) hgr hblk); clear hrow hgr hblk hz)
                  go_roundg (h.bag.length - (k + 1))
                  case measure => omega
                  case rel =>
                    refine ⟨k + 1, by omega, by go_num, rfl, ?_⟩
                    rw [Hst.out, Hd1.out, Htk.out, List.filter_append]
                    simp only [List.filter_cons, Hyes.out, List.filter_nil, if_true, ← List.append_assoc]
                    exact HM9.out
              · have Hk := Lib.hid (show h.bag.take k = h.bag from List.take_of_length_le (by omega))
                clear hMk
                go_wp2
                have M := HMk.out
                rw [Hk.out] at M
                have hw1 := Hw.out
                have he1 := Hend.out
                have hq := H.out.eq
                rw [Heo.out] at hw1 he1
                simp only at hw1 he1
                have hsm := H.out.sm
                have hso := H.out.so
                simp only [List.length_cons] at hsm
                go_roundg ((rest ++ h.bag.filter fun c => (T2.at c).isSome).length + weight (h.bag.foldl Obs.drop1 T2).all)
                case measure => simp only [List.length_append, List.length_cons] at *; omega
                case rel =>
                  refine ⟨h.bag.foldl Obs.drop1 T2, _, _, ⟨M.r1, M.b1, M.r4, M.b4, M.rep, M.mods, ?_, ?_, ?_, M.old⟩, rfl⟩
                  · rw [hq, he1, List.append_assoc]
                  · rw [List.length_append]; omega
                  · rw [List.length_append]; omega
          | some p =>
            have hhp := M1.rep.hdr _ (get_mem hp)
            have hxp : fp (blk h.peer) := M1.rep.fh _ (get_mem hp)
            have hne : blk h.peer ≠ blk id := M1.ne _ _ hp
            have hne' := hne.symm
            simp only at hhp
            have cp1 : w3.cell? ⟨blk h.peer, 1, none⟩ = some (.int .i64 p.peer) := (cell_of (o := 1) hhp).trans rfl
            have fp1 : w3.frozen? ⟨blk h.peer, 1, none⟩ = false := frozen_of hhp
            have hat1 : ((T.del id).set h.peer { p with peer := 0 }).at h.peer = some { p with peer := 0 } := by rw [at_set, if_pos rfl]
            have Hun := Lib.hid (show (((T.del id).set h.peer { p with peer := 0 }).show h.peer 2 4) = (T2, ev2) by
              have : (T.del id).unpeer h.peer = ((T.del id).set h.peer { p with peer := 0 }).show h.peer 2 4 := by simp [Obs.unpeer, hp]
              rw [← this]; exact hun)
            rw [hp] at hk2
            have Hp := Lib.hid hp
            have Hat1 := Lib.hid hat1
            have Hhp := Lib.hid hhp
            clear M1 hp hun hat1 hhp
            go_quiet (fail)
            have e1 := hp_setCell_same (w3.drewN nq) (blk h.peer) 1 (.int .i64 0) _ _ _ Hhp.out
            have HR2 := Lib.hid ((HM1.out.drewN nq).rep.set (w' := (w3.drewN nq).setCell ⟨blk h.peer, 1, none⟩ (.int .i64 0)) (h' := { p with peer := 0 }) Hp.out (by simp) (fun k' _ hk' => hp_setCell_ne _ _ _ _ hk') e1 rfl)
            have HM2 := Lib.hid ((HM1.out.drewN nq).rest (F := fun k' => k' = blk h.peer) HR2.out ((Mods.refl (fun k' => k' = blk h.peer) _).setCell (p := ⟨blk h.peer, 1, none⟩) (.inl rfl) _)
              (fun k' hk' => by subst hk'; exact ⟨hxp, _, _, Hp.out, rfl⟩) (fun c x hc => by
                rw [at_set] at hc
                by_cases e : h.peer = c
                · subst e; exact ⟨_, Hp.out⟩
                · rw [if_neg e] at hc; exact ⟨_, hc⟩))
            have Hsh := Lib.hid (show_calls HR2.out Hat1.out 2 4)
            rw [Hun.out] at Hsh
            have Hl2 := Lib.hid (show ev2.length ≤ 1 by have := show_len ((T.del id).set h.peer { p with peer := 0 }) h.peer 2 4; rw [Hun.out] at this; exact this)
            have Hat2 := Lib.hid (fun c x (hc : T2.at c = some x) => (by
              have := show_at ((T.del id).set h.peer { p with peer := 0 }) h.peer 2 4 c
              rw [Hun.out] at this
              simp only [hc, Option.isSome_some] at this
              exact Option.isSome_iff_exists.1 this.symm : ∃ y, ((T.del id).set h.peer { p with peer := 0 }).at c = some y))
            have Hm3 := Lib.hid (show (out ++ [(⟨id, true, 0⟩ : Ev)]).length + ev2.length ≤ maxLen by have := H.out.so; have := Hl2.out; rw [List.length_append]; unfold maxLen; simp only [List.length_cons, List.length_nil]; omega)
            have Hb3 := Lib.hid (show ((out ++ [(⟨id, true, 0⟩ : Ev)]).length + ev2.length) * 24 ≤ 140737488355328 by have := H.out.so; have := Hl2.out; rw [List.length_append]; simp only [List.length_cons, List.length_nil]; omega)
            clear e1 HM1
            go_wp2_with (first
              | (go_at_call 26; refine Hsh.out.mono ?_; rintro e w6 ⟨v6, rfl, hrow6, hfr6, hR6, hm6⟩; have HM3 := Lib.hid (HM2.out.rest hR6 hm6 (fun k' hk' => by subst hk'; exact ⟨hxp, _, _, Hat1.out, rfl⟩) Hat2.out); have Hs6 := Lib.hid (hrow6.src (by intro u hu; obtain ⟨e, _, he⟩ := List.mem_flatMap.1 hu; simp only [evCells, List.mem_cons, List.not_mem_nil, or_false] at he; rcases he with rfl | rfl | rfl <;> rfl)); clear hrow6 hfr6 hR6 hm6)
              | (at_builtin; refine wpList_append_row (v := v5) rfl (.tmp 59) (.tmp 66) 30 rfl tEv e0 (.agg #[.int .i64 0, .bool false, .int .i64 0]) 3 24 Tryd.underlying30 hei hez0 hez1 hez2 rfl (by decide) rfl HM3.out.r4 rfl Hs6.out Hm3.out Hb3.out ?_; intro v7 w7 hrow hgr hblk hz; have HM4 := Lib.hid (HM3.out.tell (evs := ev2) hrow (by simp only [List.length_append]) (by simp only [List.flatMap_append]) hgr hblk); have cB7 : w7.cell? ⟨blk id, 8, none⟩ = some (.slice ab h.bag.length cb) := Eq.trans ((cell_of (o := 8) HM4.out.hdr).trans rfl : _ = some (bg id)) (congrArg some Hbg.out); clear hrow hgr hblk hz))
            have HM2 := Lib.hid (by have := HM4.out; rw [List.append_assoc] at this; exact this : Mid w o fp m blk bg id h rest vt T2 (out ++ (⟨id, true, 0⟩ :: ev2)) v7 w7)

            go_loopg [1, 73] h.bag.length (fun g v1 i wr => ∃ k : Nat, k ≤ h.bag.length ∧ i = .int .i64 k ∧ h.bag.length - k = g ∧
              Mid w o fp m blk bg id h (rest ++ (h.bag.take k).filter fun c => (T2.at c).isSome) v1 ((h.bag.take k).foldl Obs.drop1 T2) (out ++ (⟨id, true, 0⟩ :: ev2)) v7 wr)
            case atStart => exact ⟨0, Nat.zero_le _, rfl, rfl, by simpa using HM2.out⟩
            case round =>
              obtain ⟨k, hkl, rfl, rfl, hMk⟩ := hrel
              have HMk := Lib.hid hMk
              have hbl : h.bag.length ≤ 1099511627776 := by have := H.out.sm; have := Hw.out.1; omega
              by_cases hlt : k < h.bag.length
              · have hin : IntsAt wr (bg id) h.bag := IntsAt.ofRow hMk.bag (by have := H.out.sm; have := Hw.out.1; unfold maxLen; omega)
                rw [Hbg.out] at hin
                obtain ⟨ab', cb', he, _, hr⟩ := hin
                cases he
                obtain ⟨gb, offb, rfl, _, hcell⟩ := hr (by omega)
                have hce := hcell k hlt
                clear hcell hr
                have Hst := Lib.hid (fold_take Obs.drop1 T2 hlt)
                have Htk := Lib.hid (take_nth hlt)
                have c0 : wr.cell? ⟨o, 0, none⟩ = some (.map (some m)) := (cell_of (o := 0) hMk.rep.top).trans rfl
                have hM := hMk.rep.map
                have hk := hMk.rep.look (nth h.bag k)
                have hl := lookups m (((h.bag.take k).foldl Obs.drop1 T2).all.map fun p => (p.1, ptr (blk p.1)))
                generalize (((h.bag.take k).foldl Obs.drop1 T2).all.map fun p => (p.1, ptr (blk p.1))) = L at hM hk hl
                have Hsome := Lib.hid (foldl_drop_at (h.bag.take k) T2 (nth h.bag k))
                cases hy : ((h.bag.take k).foldl Obs.drop1 T2).at (nth h.bag k) with
                | none =>
                  have Hno := Lib.hid (show (T2.at (nth h.bag k)).isSome = false by rw [← Hsome.out, hy]; rfl)
                  have Hd1 := Lib.hid (show ((h.bag.take k).foldl Obs.drop1 T2).drop1 (nth h.bag k) = (h.bag.take k).foldl Obs.drop1 T2 by simp [Obs.drop1, hy])
                  rw [hy] at hk
                  clear hMk hy
                  generalize nth h.bag k = c at *
                  go_wp2
                  go_roundg (h.bag.length - (k + 1))
                  case measure => omega
                  case rel =>
                    refine ⟨k + 1, by omega, by go_num, rfl, ?_⟩
                    rw [Hst.out, Hd1.out, Htk.out, List.filter_append]
                    simp only [List.filter_cons, Hno.out, List.filter_nil, List.append_nil, Bool.false_eq_true, if_false]
                    exact HMk.out
                | some y =>
                  have Hyes := Lib.hid (show (T2.at (nth h.bag k)).isSome = true by rw [← Hsome.out, hy]; rfl)
                  have Hd1 := Lib.hid (show ((h.bag.take k).foldl Obs.drop1 T2).drop1 (nth h.bag k) = ((h.bag.take k).foldl Obs.drop1 T2).set (nth h.bag k) { y with carried := wrap64 (y.carried - 1) } by simp [Obs.drop1, hy])
                  rw [hy] at hk
                  have hh := hMk.rep.hdr _ (get_mem hy)
                  have hx : fp (blk (nth h.bag k)) := hMk.rep.fh _ (get_mem hy)
                  simp only at hh
                  have c4 : wr.cell? ⟨blk (nth h.bag k), 4, none⟩ = some (.int .i64 y.carried) := (cell_of (o := 4) hh).trans rfl
                  have f4 : wr.frozen? ⟨blk (nth h.bag k), 4, none⟩ = false := frozen_of hh
                  have e1 := hp_setCell_same wr (blk (nth h.bag k)) 4 (.int .i64 (wrap64 (y.carried - 1))) _ _ _ hh
                  have Hset := Lib.hid (hMk.rest (W' := wr.setCell ⟨blk (nth h.bag k), 4, none⟩ (.int .i64 (wrap64 (y.carried - 1)))) (F := fun k' => k' = blk (nth h.bag k))
                    (T' := ((h.bag.take k).foldl Obs.drop1 T2).set (nth h.bag k) { y with carried := wrap64 (y.carried - 1) })
                    (hMk.rep.set hy (by simp) (fun k' _ hk' => hp_setCell_ne _ _ _ _ hk') e1 rfl) ((Mods.refl (fun k' => k' = blk (nth h.bag k)) wr).setCell (p := ⟨blk (nth h.bag k), 4, none⟩) (.inl rfl) _) (fun k' hk' => by subst hk'; exact ⟨hx, _, _, hy, rfl⟩)
                    (fun c x hc => by
                      rw [at_set] at hc
                      by_cases e : nth h.bag k = c
                      · subst e; exact ⟨_, hy⟩
                      · rw [if_neg e] at hc; exact ⟨_, hc⟩))
                  have Hrw := Lib.hid ((Hset.out.alloc (.cells #[.int .i64 (nth h.bag k)] tInt)).r1)
                  have Hsw := Lib.hid (by
                    have := Src.fresh (wr.setCell ⟨blk (nth h.bag k), 4, none⟩ (.int .i64 (wrap64 (y.carried - 1)))) 1 1 1 [i64 (nth h.bag k)] tInt rfl (by simp [i64, Value.oneCell'])
                    rw [World.size_setCell] at this; exact this :
                    Src ((wr.setCell ⟨blk (nth h.bag k), 4, none⟩ (.int .i64 (wrap64 (y.carried - 1)))).alloc (.cells #[.int .i64 (nth h.bag k)] tInt)) 1 (.slice (some ⟨wr.heap.size, 0, none⟩) 1 1) 1 [i64 (nth h.bag k)])
                  have hfl : ((h.bag.take k).filter fun c => (T2.at c).isSome).length ≤ h.bag.length := by
                    have h1 := List.length_filter_le (fun c => (T2.at c).isSome) (h.bag.take k)
                    have h2 := List.length_take_le k h.bag
                    have h3 : (h.bag.take k).length ≤ h.bag.length := by rw [List.length_take]; omega
                    omega
                  have hsmall : (rest ++ (h.bag.take k).filter fun c => (T2.at c).isSome).length + 1 ≤ 1099511627777 := by
                    have := H.out.sm
                    have := Hw.out.1
                    simp only [List.length_cons] at *
                    rw [List.length_append]
                    omega
                  have Hm2 := Lib.hid (show (rest ++ (h.bag.take k).filter fun c => (T2.at c).isSome).length + 1 ≤ maxLen by unfold maxLen; omega)
                  have Hb2 := Lib.hid (show ((rest ++ (h.bag.take k).filter fun c => (T2.at c).isSome).length + 1) * 8 ≤ 140737488355328 by omega)
                  obtain ⟨i0, hi, hz0, hz1, hz2⟩ := info_parts infoInt
                  clear hMk hy hh e1 hfl hsmall
                  generalize nth h.bag k = c at *
                  go_wp2_with (at_builtin; refine wpList_append_row (v := u1) rfl (.tmp 94) (.tmp 96) 47 rfl tInt i0 (.int .i64 0) 1 8 Tryd.underlying47 hi hz0 hz1 hz2 rfl (by decide) rfl Hrw.out rfl Hsw.out Hm2.out Hb2.out ?_; intro v9 w9 hrow hgr hblk hz; have HM9 := Lib.hid ((Hset.out.alloc (.cells #[.int .i64 c] tInt)).more (l := [c]) hrow (by simp only [List.length_append, List.length_cons, List.length_nil, Nat.zero_add]) (by simp) hgr hblk); clear hrow hgr hblk hz)
                  go_roundg (h.bag.length - (k + 1))
                  case measure => omega
                  case rel =>
                    refine ⟨k + 1, by omega, by go_num, rfl, ?_⟩
                    rw [Hst.out, Hd1.out, Htk.out, List.filter_append]
                    simp only [List.filter_cons, Hyes.out, List.filter_nil, if_true, ← List.append_assoc]
                    exact HM9.out
              · have Hk := Lib.hid (show h.bag.take k = h.bag from List.take_of_length_le (by omega))
                clear hMk
                go_wp2
                have M := HMk.out
                rw [Hk.out] at M
                have hw1 := Hw.out
                have he1 := Hend.out
                have hq := H.out.eq
                rw [Heo.out] at hw1 he1
                simp only at hw1 he1
                have hsm := H.out.sm
                have hso := H.out.so
                simp only [List.length_cons] at hsm
                go_roundg ((rest ++ h.bag.filter fun c => (T2.at c).isSome).length + weight (h.bag.foldl Obs.drop1 T2).all)
                case measure => simp only [List.length_append, List.length_cons] at *; omega
                case rel =>
                  refine ⟨h.bag.foldl Obs.drop1 T2, _, _, ⟨M.r1, M.b1, M.r4, M.b4, M.rep, M.mods, ?_, ?_, ?_, M.old⟩, rfl⟩
                  · rw [hq, he1, List.append_assoc]
                  · rw [List.length_append]; omega
                  · rw [List.length_append]; omega
end
end Go.Proofs.YtkifgoadbnpofaaDoor
