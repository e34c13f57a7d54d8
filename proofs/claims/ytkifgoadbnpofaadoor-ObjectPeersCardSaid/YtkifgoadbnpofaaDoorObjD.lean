/- Walks of layer 18: many, slices.Index, slices.Contains, slices.Clone over []int. -/
import Derived.Test.YtkifgoadbnpofaaDoorObjC
namespace Go.Proofs.YtkifgoadbnpofaaDoor
open Go Go.RowKit
set_option maxRecDepth 100000

def encI (n : List (Int × Int)) : List (Int × Value) := n.map fun p => (p.1, i64 p.2)
theorem get_encI (n : List (Int × Int)) (k : Int) : get (encI n) k = (get n k).map i64 := get_map (fun _ v => i64 v) n k
theorem put_encI (n : List (Int × Int)) (k v : Int) : put (encI n) k (i64 v) = encI (put n k v) := (map_put (fun _ v => i64 v) n k v).symm
theorem lookupsI (m : Nat) (L : List (Int × Value)) : ∀ W id, MapAt W m L → Sem.run Tryd.prog (Instr.lookup 50 (.map (some m)) (.int .i64 id) false) W = .ok ((get L id).getD (.int .i64 0)) W :=
  fun W id h => run_lookup_int Tryd.underlying50 Tryd.underlying3 Tryd.zeroValue3 m L W h id
theorem updatesI (m : Nat) (L : List (Int × Value)) : ∀ W id v, MapAt W m L → Sem.run Tryd.prog (Instr.mapUpdate 50 (.map (some m)) (.int .i64 id) v) W = .ok () (mPut W m id v) :=
  fun W id v h => run_mapUpdate_int Tryd.underlying50 Tryd.underlying3 m L W h id v

theorem count_of {n : List (Int × Int)} {id : Int} {c : Option Int} (h : get n id = c) : count n id = put n id (wrap64 (c.getD 0 + 1)) := by rw [count, h]
theorem count_step (l : List Int) (k : Nat) (h : k < l.length) : (l.take (k + 1)).foldl count [] = count ((l.take k).foldl count []) (nth l k) := by
  rw [take_nth h, List.foldl_append]; rfl

theorem many_none {S : Obs} {ids : List Int} {k : Nat} (hlt : k < ids.length) (hg : S.at (nth ids k) = none) : S.many ids = none := by
  have : ¬ (ids.all fun id => (S.at id).isSome) = true := by
    intro h
    have := List.all_eq_true.1 h (nth ids k) (nth_mem hlt)
    simp only [hg] at this
    cases this
  rw [Obs.many, if_neg this]
theorem many_some {S : Obs} {ids : List Int} (h : ∀ j, j < ids.length → (S.at (nth ids j)).isSome = true) : S.many ids = some (ids.foldl count []) := by
  have : (ids.all fun id => (S.at id).isSome) = true := by
    refine List.all_eq_true.2 fun x hx => ?_
    obtain ⟨j, hj, rfl⟩ := List.mem_iff_getElem.1 hx
    have := h j hj
    rw [nth_get hj] at this
    exact this
  rw [Obs.many, if_pos this]

section
variable {w : World} {o : Nat} {S : Obs} {fp : Nat → Prop} {m : Nat} {blk : Int → Nat} {bg : Int → Value}

def ManyPost (w : World) (n : Option (List (Int × Int))) (e : Ending) (w' : World) : Prop :=
  Mods (fun _ => False) w w' ∧ match n with
  | some n => ∃ mn, e = .returned (.tuple #[.map (some mn), .bool true]) ∧ w.heap.size ≤ mn ∧ MapAt w' mn (encI n)
  | none => e = .returned (.tuple #[.map none, .bool false])

set_option maxHeartbeats 1000000 in
theorem many_calls (R : ORep w o S fp m blk bg) {v : Value} {ids : List Int} (hids : IntsAt w v ids) :
    Calls Tryd.prog 29 #[ptr o, v] w (ManyPost w (S.many ids)) := by
  have c0 : w.cell? ⟨o, 0, none⟩ = some (.map (some m)) := (cell_of (o := 0) R.top).trans rfl
  have holt := hp_lt R.top
  have hM := R.map
  have hmlt := hM.lt
  have hk := Lib.hid R.look
  have hl := lookups m (S.all.map fun p => (p.1, ptr (blk p.1)))
  generalize (S.all.map fun p => (p.1, ptr (blk p.1))) = L at hM hk hl
  obtain ⟨a, c, rfl, hmax, hr⟩ := hids
  unfold maxLen at hmax
  clear R
  go_enter Tryd.func29, Tryd.ntmps29
  go_wp2
  go_loopw [12] (fun i wr => ∃ k : Nat, k ≤ ids.length ∧ i = .int .i64 k ∧ (∀ j, j < k → (S.at (nth ids j)).isSome = true) ∧ MapAt wr w.heap.size (encI ((ids.take k).foldl count [])) ∧ w.heap.size < wr.heap.size ∧ Mods (fun _ => False) w wr)
    (fun i _ => ids.length - (intOf i).toNat)
  case atStart => exact ⟨0, Nat.zero_le _, rfl, fun j hj => absurd hj (Nat.not_lt_zero _), MapAt.new w, by simp, (Mods.refl _ _).alloc _⟩
  case round =>
    rename_i wr
    obtain ⟨k, hkl, rfl, hpre, hMn, hszr, hmod⟩ := hrel
    have c0r : wr.cell? ⟨o, 0, none⟩ = some (.map (some m)) := by rw [hmod.cell (p := ⟨o, 0, none⟩) holt (fun h => h)]; exact c0
    have hMr : MapAt wr m L := hM.of_block (hmod.block m hmlt (fun h => h))
    have hlI := lookupsI w.heap.size (encI ((ids.take k).foldl count []))
    have huI := updatesI w.heap.size (encI ((ids.take k).foldl count []))
    have HgI := Lib.hid (get_encI ((ids.take k).foldl count []))
    have HM := Lib.hid hMn
    have Hpre := Lib.hid hpre
    generalize encI ((ids.take k).foldl count []) = L' at hMn hlI huI HgI
    clear hpre c0 hM
    by_cases hlt : k < ids.length
    · obtain ⟨b, off, rfl, hblt, hcell⟩ := hr (by omega)
      have hce : wr.cell? ⟨b, off + k, none⟩ = some (.int .i64 (nth ids k)) := by rw [hmod.cell (p := ⟨b, off + k, none⟩) hblt (fun h => h)]; exact hcell k hlt
      have Hst := Lib.hid (count_step ids k hlt)
      have hk' := hk.out (nth ids k)
      have hkI := HgI.out (nth ids k)
      clear hcell hr
      cases hg : S.at (nth ids k) with
      | none =>
        have Hm := Lib.hid (many_none hlt hg)
        rw [hg] at hk'
        clear hg Hst
        generalize nth ids k = id at *
        go_wp2
        go_ret2
        rw [Hm.out]
        exact ⟨hmod, rfl⟩
      | some h =>
        have Hg := Lib.hid (show (S.at (nth ids k)).isSome = true by rw [hg]; rfl)
        rw [hg] at hk'
        clear hg
        cases hgc : get ((ids.take k).foldl count []) (nth ids k) with
        | none =>
          rw [hgc] at hkI
          have Hst2 := Lib.hid (show encI ((ids.take (k + 1)).foldl count []) = put (encI ((ids.take k).foldl count [])) (nth ids k) (i64 1) by
            rw [Hst.out, put_encI, count_of hgc, show wrap64 (Option.getD none 0 + 1) = 1 from by simp [wrap64]])
          clear hgc Hst
          generalize hidd : nth ids k = id at *
          have Hidd := Lib.hid hidd
          clear hidd
          go_wp2
          go_roundw
          case rel =>
            refine ⟨k + 1, by omega, by go_num, ?_, ?_, by simpa using hszr, hmod.mPut (.inr (Nat.le_refl _)) _ _⟩
            · intro j hj
              by_cases e : j = k
              · subst e; rw [Hidd.out]; exact Hg.out
              · exact Hpre.out j (by omega)
            · rw [Hst2.out]; exact HM.out.put _ _
          case measure => simp [intOf]; omega
        | some cnt =>
          rw [hgc] at hkI
          have Hst2 := Lib.hid (show encI ((ids.take (k + 1)).foldl count []) = put (encI ((ids.take k).foldl count [])) (nth ids k) (i64 (wrap64 (cnt + 1))) by
            rw [Hst.out, put_encI, count_of hgc]; rfl)
          clear hgc Hst
          generalize hidd : nth ids k = id at *
          have Hidd := Lib.hid hidd
          clear hidd
          go_wp2
          go_roundw
          case rel =>
            refine ⟨k + 1, by omega, by go_num, ?_, ?_, by simpa using hszr, hmod.mPut (.inr (Nat.le_refl _)) _ _⟩
            · intro j hj
              by_cases e : j = k
              · subst e; rw [Hidd.out]; exact Hg.out
              · exact Hpre.out j (by omega)
            · rw [Hst2.out]; exact HM.out.put _ _
          case measure => simp [intOf]; omega
    · have Hm := Lib.hid (many_some (S := S) (ids := ids) (fun j hj => Hpre.out j (by omega)))
      have Hk := Lib.hid (show ids.take k = ids from List.take_of_length_le (by omega))
      go_wp2
      go_ret2
      rw [Hm.out]
      refine ⟨hmod, w.heap.size, rfl, Nat.le_refl _, ?_⟩
      have := HM.out
      rw [Hk.out] at this
      exact this
end

section
variable {w : World}
def idxOf (l : List Int) (x : Int) : Int := match l.findIdx? (· == x) with | some i => i | none => -1

theorem idx_step {l : List Int} {k : Nat} {x : Int} (h : k < l.length) (hp : ∀ j, j < k → nth l j ≠ x) (hx : nth l k = x) : idxOf l x = k := by
  have : l.findIdx? (· == x) = some k := by
    rw [List.findIdx?_eq_some_iff_getElem]
    refine ⟨h, by rw [nth_get h] at hx; simp [hx], fun j hj => ?_⟩
    have := hp j hj
    rw [nth_get (by omega)] at this
    simpa using this
  simp [idxOf, this]
theorem idx_none {l : List Int} {x : Int} (hp : ∀ j, j < l.length → nth l j ≠ x) : idxOf l x = -1 := by
  have : l.findIdx? (· == x) = none := by
    rw [List.findIdx?_eq_none_iff]
    intro y hy
    obtain ⟨j, hj, rfl⟩ := List.mem_iff_getElem.1 hy
    have := hp j hj
    rw [nth_get hj] at this
    simpa using this
  simp [idxOf, this]
theorem idx_mem {l : List Int} {x : Int} : decide (0 ≤ idxOf l x) = decide (x ∈ l) := by
  unfold idxOf
  cases h : l.findIdx? (· == x) with
  | none =>
    have : x ∉ l := by
      rw [List.findIdx?_eq_none_iff] at h
      intro hm
      have := h x hm
      simp at this
    simp [this]
  | some i =>
    rw [List.findIdx?_eq_some_iff_getElem] at h
    obtain ⟨hi, hx, _⟩ := h
    have : x ∈ l := by
      have e : l[i] = x := by simpa using hx
      rw [← e]; exact List.getElem_mem hi
    simp [this]

set_option maxHeartbeats 1000000 in
theorem index_calls {v : Value} {ids : List Int} (hids : IntsAt w v ids) (x : Int) :
    Calls Tryd.prog 31 #[v, i64 x] w fun e w' => e = .returned (i64 (idxOf ids x)) ∧ w = w' := by
  obtain ⟨a, c, rfl, hmax, hr⟩ := hids
  unfold maxLen at hmax
  go_enter Tryd.func31, Tryd.ntmps31
  go_wp2
  go_loop [8] (fun i => ∃ k : Nat, k ≤ ids.length ∧ i = .int .i64 k ∧ (∀ j, j < k → nth ids j ≠ x)) (fun i => ids.length - (intOf i).toNat)
  case atStart => exact ⟨0, Nat.zero_le _, rfl, fun j hj => absurd hj (Nat.not_lt_zero _)⟩
  case round =>
    obtain ⟨k, hkl, rfl, hpre⟩ := hrel
    have Hpre := Lib.hid hpre
    clear hpre
    by_cases hlt : k < ids.length
    · obtain ⟨b, off, rfl, hblt, hcell⟩ := hr (by omega)
      have hce := hcell k hlt
      clear hcell hr
      cases hx : decide (nth ids k = x) with
      | true =>
        have hx' : (x == nth ids k) = true := by simp at hx; simp [hx]
        have Hi := Lib.hid (idx_step hlt Hpre.out (by simpa using hx))
        clear hx
        go_wp2
        go_ret
        exact ⟨by rw [Hi.out]; rfl, rfl⟩
      | false =>
        have hx' : (x == nth ids k) = false := by
          have : ¬ nth ids k = x := by simpa using hx
          simpa using fun e : x = nth ids k => this e.symm
        have Hx := Lib.hid (show nth ids k ≠ x by simpa using hx)
        clear hx
        go_wp2
        go_round
        case rel =>
          refine ⟨k + 1, by omega, by go_num, fun j hj => ?_⟩
          by_cases e : j = k
          · subst e; exact Hx.out
          · exact Hpre.out j (by omega)
        case measure => simp [intOf]; omega
    · have Hi := Lib.hid (idx_none (l := ids) (x := x) (fun j hj => Hpre.out j (by omega)))
      go_wp2
      go_ret
      exact ⟨by rw [Hi.out]; rfl, rfl⟩

set_option maxHeartbeats 400000 in
theorem contains_calls {v : Value} {ids : List Int} (hids : IntsAt w v ids) (x : Int) :
    Calls Tryd.prog 24 #[v, i64 x] w fun e w' => e = .returned (.bool (decide (x ∈ ids))) ∧ w = w' := by
  have H := Lib.hid (index_calls hids x)
  have Hm := Lib.hid (idx_mem (l := ids) (x := x))
  clear hids
  generalize idxOf ids x = n at *
  go_enter Tryd.func24, Tryd.ntmps24
  go_wp2_with (go_at_call 31; refine H.out.mono ?_; rintro e w' ⟨rfl, rfl⟩)
  go_ret
  exact ⟨by rw [← Hm.out]; rfl, rfl⟩

def ClonePost (w : World) (ids : List Int) (e : Ending) (w' : World) : Prop :=
  ∃ v, e = .returned v ∧ Row w' tInt 1 v ids.length (ids.map i64) ∧ (∀ k, v.ownBlock = some k → w.heap.size ≤ k) ∧ Mods (fun _ => False) w w'

theorem infoInt : (Tryd.prog.info? tInt).map (fun i => (i.zero, i.size, i.bytes)) = some (some (.int .i64 0), 1, 8) := by kernel_rfl

set_option maxHeartbeats 1000000 in
theorem clone_calls {v : Value} {ids : List Int} (hids : IntsAt w v ids) (hown : ∀ k, v.ownBlock = some k → k < w.heap.size) (hsz : ids.length * 8 ≤ 140737488355328) :
    Calls Tryd.prog 30 #[v] w (ClonePost w ids) := by
  obtain ⟨i0, hi, hz0, hz1, hz2⟩ := info_parts infoInt
  have hsrc := hids.src
  have hnil := run_eql_nilslice Tryd.underlying47
  obtain ⟨a, c, rfl, hmax, hr⟩ := hids
  cases a with
  | none =>
    have hl : ids.length = 0 := by
      by_cases h : 0 < ids.length
      · obtain ⟨b, off, h', _⟩ := hr h; cases h'
      · omega
    have hn : ids = [] := List.eq_nil_of_length_eq_zero hl
    subst hn
    clear hr hsrc
    go_enter Tryd.func30, Tryd.ntmps30
    go_wp2
    go_ret
    exact ⟨_, rfl, Row.nil _ _ _, (fun k h => by cases h), Mods.refl _ _⟩
  | some ad =>
    have Hs := Lib.hid hsrc
    have hlt : ∀ k, (Value.slice (some ad) ids.length c).ownBlock = some k → k < w.heap.size := hown
    have hb : ids.length * 8 ≤ 140737488355328 := hsz
    have hm0 : 0 + ids.length ≤ maxLen := by omega
    have hby0 : (0 + ids.length) * 8 ≤ 140737488355328 := by omega
    have Hm := Lib.hid hm0
    have Hb := Lib.hid hby0
    clear hr hsrc hmax hsz hb hm0 hby0
    have Hrow := Lib.hid (show Row (w.alloc (.cells #[] 3)) tInt 1 (.slice (some ⟨w.heap.size, 0, none⟩) 0 0) 0 [] from
      ⟨rfl, .inr ⟨w.heap.size, 0, 0, #[], rfl, hp_alloc_new w _, Nat.le_refl _, Nat.zero_le _, by simp, by simp⟩⟩)
    have Hsrc := Lib.hid (show Src (w.alloc (.cells #[] 3)) 1 (.slice (some ad) ids.length c) ids.length (ids.map i64) from
      Hs.out.keep (fun k hk => hp_alloc_old _ _ _ (hlt k hk)))
    go_enter Tryd.func30, Tryd.ntmps30
    go_wp2_with (at_builtin; refine wpList_append_row rfl (.tmp 5) (.tmp 6) 47 rfl tInt i0 (.int .i64 0) 1 8 Tryd.underlying47 hi hz0 hz1 hz2 rfl (by decide) rfl Hrow.out rfl Hsrc.out Hm.out Hb.out ?_; intro v' w1 hrow hgr hblk hz; have Hr1 := Lib.hid hrow; have Hg1 := Lib.hid hgr; have Hb1 := Lib.hid hblk; clear hrow hgr hblk hz)
    go_ret
    refine ⟨v', rfl, ?_, ?_, ((Mods.refl _ _).alloc _).grown Hg1.out (fun k hk => ?_)⟩
    · have := Hr1.out
      simpa using this
    · intro k hk
      rcases Hb1.out with h | h
      · rw [h] at hk; cases hk; exact Nat.le_refl _
      · rw [h] at hk; cases hk; simp
    · cases hk; exact .inr (Nat.le_refl _)
end
end Go.Proofs.YtkifgoadbnpofaaDoor
