/- Walks of layer 8: Info. -/
import Derived.Test.YtkifgoadbnpofaaVmoB
import Derived.StillTailTactics
import Derived.Laws.ResultCell
namespace Go.Proofs.Ytkifgoadbnpofaa
open Go Go.RowKit
set_option maxRecDepth 100000

theorem results_cell_range {P : Program} {fn : Func} {p u : Tmp} {ty : TypeId} (h : fn.results = #[.cell p ty, .tmp u]) (tmps : Array Value) (w : World) (b : Nat) (ds : List Value) {d : TypeDesc}
    (hp : tmps.getD p undef = .pointer (some ⟨b, 0, none⟩)) (hr : w.rangeAt b 0 ds) (hu : P.underlying ty = some d) (hd : d.isRow = true) (hi : (P.info? ty).map (·.size) = some ds.length) :
    (results fn tmps).run P w = .ok (.tuple #[.agg ds.toArray, tmps.getD u undef]) w := by
  rw [results_cell_tmp h, hp]
  simp only [asAddr, Sem.run_pure, Result.andThen, run_loadVar_mid w b 0 ty ds d hr hu hd hi]
/-- A block that is known is written whole. -/
theorem wp_store_block {P : Program} {ops : Array Oper} {rest : List Oper} {op : Oper} {a : Act} {w : World} {Q : Exit → Act → World → Prop} (hgd : op.guard = none) (ty : TypeId) (x y : Operand) (ho : op.op = .store ty x y)
    (b : Nat) {cur : Array Value} {t : TypeId} (hb : w.heap[b]? = some (.cells cur t (0, 0))) (ds : List Value) (hx : a.eval x = .pointer (some ⟨b, 0, none⟩)) (hy : a.eval y = .agg ds.toArray) (hn : ds.length = cur.size)
    (hi : (P.info? ty).map (·.size) = some cur.size) (h1 : ∀ u ∈ ds, u.oneCell' = true)
    (h : ∀ w3, w3.rangeAt b 0 ds → Mods (fun k => k = b) w w3 → wpList P ops Q rest (a.put op.dst undef) w3) : wpList P ops Q (op :: rest) a w := by
  have ht : w.there b 0 cur.size := fun j hj => ⟨by rw [cell_of hb, Array.getElem?_eq_getElem (by omega)]; rfl, frozen_of hb⟩
  refine wpList_store_list hgd ty x y ho b 0 ds cur.size hx hy hn ht hi h1 ?_
  exact h _ (World.rangeAt_setCells_same _ _ _ _ (by rw [hn]; exact ht)) (setCells_mods _ _ _ _)
theorem infoInfo : (Try.prog.info? 39).map (·.size) = some 6 := by kernel_rfl
def infoCells (o : Option Vobj) : Array Value := match o with
  | none => #[i64 0, i64 0, i64 0, i64 0, .bool false, .bool false]
  | some o => #[i64 o.size, i64 o.parent, i64 o.kids.length, i64 o.frames.length, .bool o.slice, .bool o.dropped]
section
variable {w : World} {Y : Lay} {S : Vset} {pv : Value} {pf : Nat → Prop}
set_option maxHeartbeats 1000000 in
theorem vinfo_calls (R : VRep w Y S pv pf) (id : Int) : Calls Try.prog 21 #[ptr Y.s, i64 id] w fun e w' => e = .returned (.tuple #[.agg (infoCells (S.at_ id)), .bool (S.at_ id).isSome]) ∧ Mods (fun _ => False) w w' := by
  have c1 : w.cell? ⟨Y.s, 1, none⟩ = some (.map (some Y.m)) := (cell_of (o := 1) R.top).trans rfl
  have hM := R.map
  have hml := R.map.lt
  have hk := R.look id
  have hl := lookupsO Y.m (obs S Y)
  have hsl := hp_lt R.top
  generalize obs S Y = L at hM hk hl
  cases hg : S.at_ id with
  | none =>
    rw [hg] at hk
    clear hg R
    go_enter Try.func21, Try.ntmps21
    go_wp2
    refine bodyPost_ret (v := .tuple #[.agg (infoCells none), .bool false]) ?_ rfl ⟨rfl, (Mods.refl _ _).alloc _⟩
    rw [results_cell_tmp rfl]
    go_simp
    rfl
  | some o =>
    rw [hg] at hk
    have hmem := get_mem hg
    have hh := R.hdr _ hmem
    have hbl := hp_lt hh
    obtain ⟨ka, kc, hkv⟩ := (R.kids _ hmem).shape
    have q0 : w.cell? ⟨Y.blk id, 0, none⟩ = some (i64 o.size) := (cell_of (o := 0) hh).trans rfl
    have q1 : w.cell? ⟨Y.blk id, 1, none⟩ = some (i64 o.parent) := (cell_of (o := 1) hh).trans rfl
    have q2 : w.cell? ⟨Y.blk id, 2, none⟩ = some (framesV o (Y.mb id)) := (cell_of (o := 2) hh).trans rfl
    have q3 : w.cell? ⟨Y.blk id, 3, none⟩ = some (Y.cs id) := (cell_of (o := 3) hh).trans rfl
    have q4 : w.cell? ⟨Y.blk id, 4, none⟩ = some (.bool o.slice) := (cell_of (o := 4) hh).trans rfl
    have q7 : w.cell? ⟨Y.blk id, 7, none⟩ = some (.bool o.dropped) := (cell_of (o := 7) hh).trans rfl
    simp only at hkv
    rw [hkv] at q3
    cases hs : o.slice with
    | true =>
      have Hn := Lib.hid (R.nofr _ hmem hs)
      rw [show framesV o (Y.mb id) = .map none by simp [framesV, hs]] at q2
      rw [hs] at q4
      clear hg R hmem hh hkv
      go_enter Try.func21, Try.ntmps21
      go_wp2
      have HN := Lib.hid (hp_alloc_new w (.cells #[.int .i64 0, .int .i64 0, .int .i64 0, .int .i64 0, .bool false, .bool false] 39))
      have MM := Lib.hid ((Mods.refl (fun _ => False) w).alloc (.cells #[.int .i64 0, .int .i64 0, .int .i64 0, .int .i64 0, .bool false, .bool false] 39))
      have r0 := (World.cell?_alloc_lt w (.cells #[.int .i64 0, .int .i64 0, .int .i64 0, .int .i64 0, .bool false, .bool false] 39) ⟨Y.blk id, 0, none⟩ hbl).trans q0
      have r1 := (World.cell?_alloc_lt w (.cells #[.int .i64 0, .int .i64 0, .int .i64 0, .int .i64 0, .bool false, .bool false] 39) ⟨Y.blk id, 1, none⟩ hbl).trans q1
      have r2 := (World.cell?_alloc_lt w (.cells #[.int .i64 0, .int .i64 0, .int .i64 0, .int .i64 0, .bool false, .bool false] 39) ⟨Y.blk id, 2, none⟩ hbl).trans q2
      have r3 := (World.cell?_alloc_lt w (.cells #[.int .i64 0, .int .i64 0, .int .i64 0, .int .i64 0, .bool false, .bool false] 39) ⟨Y.blk id, 3, none⟩ hbl).trans q3
      have r4 := (World.cell?_alloc_lt w (.cells #[.int .i64 0, .int .i64 0, .int .i64 0, .int .i64 0, .bool false, .bool false] 39) ⟨Y.blk id, 4, none⟩ hbl).trans q4
      have r7 := (World.cell?_alloc_lt w (.cells #[.int .i64 0, .int .i64 0, .int .i64 0, .int .i64 0, .bool false, .bool false] 39) ⟨Y.blk id, 7, none⟩ hbl).trans q7
      generalize w.alloc (.cells #[.int .i64 0, .int .i64 0, .int .i64 0, .int .i64 0, .bool false, .bool false] 39) = W at *
      go_still_tail 27, (by kernel_rfl)
      change wpList _ _ _ _ _ W.drew
      go_wp2_with (refine wp_store_block rfl 39 (.tmp 4) (.tmp 42) rfl w.heap.size HN.out [i64 o.size, i64 o.parent, i64 o.kids.length, i64 0, .bool true, .bool o.dropped] rfl rfl rfl infoInfo (by simp [i64, Value.oneCell']) ?_; intro w3 hr3 hm3; have Hr3 := Lib.hid hr3; have Hm3 := Lib.hid hm3; clear hr3 hm3)
      refine bodyPost_ret (v := .tuple #[.agg (infoCells (some o)), .bool true]) ?_ rfl ⟨rfl, ?_⟩
      · rw [results_cell_range rfl _ _ w.heap.size _ rfl Hr3.out Try.underlying39 rfl infoInfo]
        simp [infoCells, hs, Hn.out]
      · exact (MM.out.drew).trans Hm3.out (fun i hi => .inr (by omega))
    | false =>
      have hF := R.frs _ hmem hs
      have hfl := hF.lt
      have hlen := lensF (Y.mb id) (encI o.frames)
      have Hn := Lib.hid (show (encI o.frames).length = o.frames.length by simp [encI])
      rw [show framesV o (Y.mb id) = .map (some (Y.mb id)) by simp [framesV, hs]] at q2
      rw [hs] at q4
      simp only at hF
      generalize encI o.frames = F at hF hlen Hn
      clear hg R hmem hh hkv
      go_enter Try.func21, Try.ntmps21
      go_wp2
      have HN := Lib.hid (hp_alloc_new w (.cells #[.int .i64 0, .int .i64 0, .int .i64 0, .int .i64 0, .bool false, .bool false] 39))
      have MM := Lib.hid ((Mods.refl (fun _ => False) w).alloc (.cells #[.int .i64 0, .int .i64 0, .int .i64 0, .int .i64 0, .bool false, .bool false] 39))
      have r0 := (World.cell?_alloc_lt w (.cells #[.int .i64 0, .int .i64 0, .int .i64 0, .int .i64 0, .bool false, .bool false] 39) ⟨Y.blk id, 0, none⟩ hbl).trans q0
      have r1 := (World.cell?_alloc_lt w (.cells #[.int .i64 0, .int .i64 0, .int .i64 0, .int .i64 0, .bool false, .bool false] 39) ⟨Y.blk id, 1, none⟩ hbl).trans q1
      have r2 := (World.cell?_alloc_lt w (.cells #[.int .i64 0, .int .i64 0, .int .i64 0, .int .i64 0, .bool false, .bool false] 39) ⟨Y.blk id, 2, none⟩ hbl).trans q2
      have r3 := (World.cell?_alloc_lt w (.cells #[.int .i64 0, .int .i64 0, .int .i64 0, .int .i64 0, .bool false, .bool false] 39) ⟨Y.blk id, 3, none⟩ hbl).trans q3
      have r4 := (World.cell?_alloc_lt w (.cells #[.int .i64 0, .int .i64 0, .int .i64 0, .int .i64 0, .bool false, .bool false] 39) ⟨Y.blk id, 4, none⟩ hbl).trans q4
      have r7 := (World.cell?_alloc_lt w (.cells #[.int .i64 0, .int .i64 0, .int .i64 0, .int .i64 0, .bool false, .bool false] 39) ⟨Y.blk id, 7, none⟩ hbl).trans q7
      have hFW : MapAt (w.alloc (.cells #[.int .i64 0, .int .i64 0, .int .i64 0, .int .i64 0, .bool false, .bool false] 39)) (Y.mb id) F := (MapAt_alloc hfl).2 hF
      generalize w.alloc (.cells #[.int .i64 0, .int .i64 0, .int .i64 0, .int .i64 0, .bool false, .bool false] 39) = W at *
      go_still_tail 27, (by kernel_rfl)
      change wpList _ _ _ _ _ W.drew
      go_wp2_with (refine wp_store_block rfl 39 (.tmp 4) (.tmp 42) rfl w.heap.size HN.out [i64 o.size, i64 o.parent, i64 o.kids.length, i64 F.length, .bool false, .bool o.dropped] rfl rfl rfl infoInfo (by simp [i64, Value.oneCell']) ?_; intro w3 hr3 hm3; have Hr3 := Lib.hid hr3; have Hm3 := Lib.hid hm3; clear hr3 hm3)
      refine bodyPost_ret (v := .tuple #[.agg (infoCells (some o)), .bool true]) ?_ rfl ⟨rfl, ?_⟩
      · rw [results_cell_range rfl _ _ w.heap.size _ rfl Hr3.out Try.underlying39 rfl infoInfo]
        simp [infoCells, hs, Hn.out]
      · exact (MM.out.drew).trans Hm3.out (fun i hi => .inr (by omega))

end
end Go.Proofs.Ytkifgoadbnpofaa
