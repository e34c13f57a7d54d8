/- Walks of layer 8: Snapshot. -/
import Derived.Test.YtkifgoadbnpofaaVmoL
namespace Go.Proofs.Ytkifgoadbnpofaa
open Go Go.RowKit
set_option maxRecDepth 100000

theorem numbered_len (l : List Int) : (numbered l).length = l.length := by simp [numbered]
theorem numbered_take {l : List Int} {k : Nat} (h : k < l.length) : (numbered l).take (k + 1) = (numbered l).take k ++ [((k : Int), nth l k)] := by
  rw [List.take_succ_eq_append_getElem (by rw [numbered_len]; exact h)]
  congr 1
  simp [numbered, nth]
theorem with_new {S : Vset} {id : Int} {c : Vobj} (h : S.at_ id = some c) (hc : c.frames = []) : S.with id c (S.pool, []) = S := by
  have := Vset.with_self h
  rw [hc] at this
  exact this
section
variable {w : World} {Y : Lay} {S : Vset} {pv : Value} {pf : Nat → Prop}
set_option maxHeartbeats 4000000 in
theorem vsnapshot_calls (R : VRep w Y S pv pf) (G : Good S) (hl : S.last < 4611686018427387904) (id a n : Int) :
    Calls Try.prog 17 #[ptr Y.s, i64 id, i64 a, i64 n] w (MadePost Y (S.snapshot id a n) pf w) := by
  have HW := Lib.hid (vwindow_calls R a n (fun o h => by have := G.reachOk id o h; exact ⟨this.1, this.2.1⟩))
  have HR := Lib.hid R
  by_cases hw : S.window id a n = 0
  · obtain ⟨o, hf, hat, ha0, hn0, ha1, hn1, hin⟩ := Vset.window_ok hw
    rw [show S.windowPtr Y id a n = ptr (Y.blk id) by simp [Vset.windowPtr, hw], hw] at HW
    have hh := R.hdr _ (G.mem hat)
    have c4 : w.cell? ⟨Y.blk id, 4, none⟩ = some (.bool o.slice) := (cell_of (o := 4) hh).trans rfl
    cases hsl : o.slice with
    | true =>
      have H := Lib.hid (show S.snapshot id a n = (S, 0, -2) by simp [Vset.snapshot, hw, hat, hsl])
      rw [hsl] at c4
      clear R G hw hf hat hh hin hsl
      go_enter Try.func17, Try.ntmps17
      go_wp2_with (go_at_call 46; refine HW.out.mono ?_; rintro e w' ⟨rfl, rfl⟩)
      go_ret2
      unfold MadePost
      rw [H.out]
      exact ⟨rfl, VUpd.same HR.out (Mods.refl _ _)⟩
    | false =>
      rw [hsl] at c4
      by_cases hbig : 4096 < n
      · have H := Lib.hid (show S.snapshot id a n = (S, 0, -10) by simp [Vset.snapshot, hw, hat, hsl, hbig])
        clear R G hw hf hat hh hin hsl
        go_enter Try.func17, Try.ntmps17
        go_wp2_with (go_at_call 46; refine HW.out.mono ?_; rintro e w' ⟨rfl, rfl⟩)
        go_ret2
        unfold MadePost
        rw [H.out]
        exact ⟨rfl, VUpd.same HR.out (Mods.refl _ _)⟩
      · have hbb : decide (4096 < n) = false := by simpa using hbig
        obtain ⟨hwl, hn, hne⟩ := G.fresh hl
        have hlt : ∀ k, (pf k ∨ Y.of k) → k < w.heap.size := fun k hk => by rcases hk with hk | hk; exact R.pool.lt k hk; exact R.lt k hk
        have MA := Lib.hid (fun (o1 o2 : Obj) => ((Mods.refl (fun _ => False) w).alloc o1).alloc o2)
        have hbl := hp_lt hh
        by_cases hfull : S.most ≤ S.objs.length
        · have H := Lib.hid (show S.snapshot id a n = (S, 0, -4) by simp [Vset.snapshot, hw, hat, hsl, hbig, Vset.add, hfull])
          have HA := Lib.hid (fun (w1 : World) (M : Mods (fun _ => False) w w1) (b : Nat) => vadd_full (R.mods M (fun _ _ h => h)) b hfull)
          clear R G hw hf hat hh hin hsl hwl hn hne hlt hfull
          go_enter Try.func17, Try.ntmps17
          go_wp2_with (first
            | (go_at_call 46; refine HW.out.mono ?_; rintro e w' ⟨rfl, rfl⟩)
            | (go_at_call 39; refine (HA.out _ (MA.out _ _) _).mono ?_; rintro e w2 ⟨rfl, hR, hM⟩; have HR2 := Lib.hid hR; have HM2 := Lib.hid hM; clear hR hM))
          go_ret2
          unfold MadePost
          rw [H.out]
          exact ⟨rfl, VUpd.same HR.out ((MA.out _ _).trans HM2.out (fun _ h => h.elim))⟩
        · obtain ⟨c, hc⟩ : ∃ c : Vobj, c = ⟨n, id, [], [], false, 0, 0, false⟩ := ⟨_, rfl⟩
          have hadd := Vset.add_ok (o := c) hfull hwl.symm (show c.parent ≠ S.last + 1 by rw [hc]; exact hne _ _ hat)
          rw [show c.parent = id by rw [hc], hat] at hadd
          simp only at hadd
          have hneid : id ≠ S.last + 1 := hne _ _ hat
          have hS1c : (S.add c).1.at_ (S.last + 1) = some c := by
            rw [hadd]
            show get (put (put S.objs (S.last + 1) c) id _) (S.last + 1) = _
            rw [get_put, if_neg hneid, get_put, if_pos rfl]
          have hS1o : (S.add c).1.at_ id = some { o with kids := o.kids ++ [S.last + 1] } := by
            rw [hadd]
            show get (put (put S.objs (S.last + 1) c) id _) id = _
            rw [get_put, if_pos rfl]
          have hpool : (S.add c).1.pool = S.pool := by rw [hadd]; rfl
          have H := Lib.hid (show S.snapshot id a n = ((S.add c).1.with (S.last + 1) c ((numbered (touched a n)).foldl (share1 o.frames) (S.pool, [])), S.last + 1, 0) by
            unfold Vset.snapshot
            rw [if_neg (by simp [hw]), hat]
            simp only [hsl, Bool.false_eq_true, if_false, if_neg hbig]
            rw [← hc]
            have e1 : (S.add c).2.2 = 0 := by rw [hadd]
            have e2 : (S.add c).2.1 = S.last + 1 := by rw [hadd]
            rw [if_neg (by simp [e1]), e2, hpool]
            rw [hc]
            rfl)
          have hcsl : c.slice = false := by rw [hc]
          have hcfr : c.frames = [] := by rw [hc]
          have hids : (S.add c).2 = (S.last + 1, 0) := by rw [hadd]
          have HA := Lib.hid (fun (W : World) (hW : W = (w.alloc (.map #[] 0)).alloc (.cells #[i64 n, i64 id, .map (some w.heap.size), .slice none 0 0, .bool false, i64 0, i64 0, .bool false] tVobj)) =>
            (show Calls Try.prog 39 #[ptr Y.s, .pointer (some ⟨w.heap.size + 1, 0, none⟩)] W (AddPost Y (S.add c).1 pv pf (S.last + 1) (w.heap.size + 1) w.heap.size W) by
              subst hW
              have h1 := hp_alloc_new (w.alloc (.map #[] 0)) (.cells #[i64 n, i64 id, .map (some w.heap.size), .slice none 0 0, .bool false, i64 0, i64 0, .bool false] tVobj)
              rw [show (w.alloc (.map #[] 0)).heap.size = w.heap.size + 1 by simp] at h1
              exact vadd_calls (R.mods (MA.out _ _) (fun _ _ h => h)) (mb := w.heap.size) (o := c) hfull hwl.symm hn
                (by rw [hc]; exact hneid) (by rw [hc]) (by rw [hc]) ⟨fun h => by have := hlt _ (.inr h); omega, fun h => by have := hlt _ (.inl h); omega⟩
                (fun _ => ⟨fun h => by have := hlt _ (.inr h); omega, fun h => by have := hlt _ (.inl h); omega⟩) (by rw [hc]; exact h1) (fun _ => (MapAt_alloc (by simp)).2 (MapAt.new w)) (fun up h => G.kidsLen h)))
          have hso := G.size _ (G.mem hat)
          simp only at hso
          have hin' := hin
          simp only [inside, decide_eq_true_eq] at hin'
          have HT := Lib.hid (fun (w1 : World) => touched_calls (w := w1) a n ha0 (by omega) hn0 (by omega))
          have HcS := Lib.hid hS1c
          have HoS := Lib.hid hS1o
          have Hsl := Lib.hid hsl
          have Hcsl := Lib.hid hcsl
          have Hcfr := Lib.hid hcfr
          have Hne := Lib.hid hneid
          have Hpool := Lib.hid hpool
          have Htl := Lib.hid (show (touched a n).length ≤ 65 by rw [touched_len]; unfold npages; split <;> omega)
          clear R G hw hf hat hh hin hsl hwl hn hne hlt hfull hadd hS1c hS1o hpool hc hcsl hcfr hids hso hin' hneid
          generalize hTT : touched a n = T at *
          clear hTT
          generalize (S.add c).1 = S1 at *
          generalize S.last + 1 = nid at *
          go_enter Try.func17, Try.ntmps17
          go_wp2_with (first
            | (go_at_call 46; refine HW.out.mono ?_; rintro e w' ⟨rfl, rfl⟩)
            | (go_at_call 39; refine (HA.out _ rfl).mono ?_; rintro e w2 ⟨rfl, hA⟩; have HA2 := Lib.hid hA; clear hA)
            | (go_at_call 43; refine (HT.out _).mono ?_; rintro e w3 ⟨v3, rfl, hN⟩; obtain ⟨na, nc, rfl⟩ := hN.1.shape; have HN := Lib.hid hN; clear hN))
          obtain ⟨Y', hR2, e1, e2, e3, e4, e5, hM2, hf2⟩ := HA2.out.ex
          have HR2 := Lib.hid hR2
          have HM2 := Lib.hid hM2
          have Hf2 := Lib.hid hf2
          have HE := Lib.hid (show Y'.s = Y.s ∧ Y'.pb = Y.pb ∧ Y'.blk id = Y.blk id ∧ Y'.blk nid = w'.heap.size + 1 from ⟨e1, e2, (e3 id Hne.out).1, e4⟩)
          clear hR2 hM2 hf2 e1 e2 e3 e4 e5 HA2
          have HR3 := Lib.hid (HR2.out.mods HN.out.2.2 (fun _ _ h => h))
          have HvI := Lib.hid (IntsAt.ofRow HN.out.1 (by have := Htl.out; unfold maxLen; omega))
          have Hvo := Lib.hid (show ∀ k, (Value.slice na T.length nc).ownBlock = some k → ¬ pf k ∧ ¬ Y'.of k ∧ k < w3.heap.size from fun k hk => by
            have h1 := HN.out.2.1 k hk
            refine ⟨fun h => ?_, fun h => ?_, by obtain ⟨cur, hc⟩ := HN.out.1.block hk; exact hp_lt hc⟩
            · have := HR2.out.pool.lt k h; omega
            · have := HR2.out.lt k h; omega)
          have htl := Htl.out
          have HX := Lib.hid (fun (st : Pool × List (Int × Int)) (wr : World) (pv1 : Value) (pf1 : Nat → Prop) (R1 : VRep wr Y' (S1.with nid c st) pv1 pf1) => (show
              wr.cell? ⟨Y.s, 0, none⟩ = some (ptr Y.pb) ∧ wr.cell? ⟨Y.blk id, 2, none⟩ = some (.map (some (Y'.mb id))) ∧ wr.cell? ⟨w'.heap.size + 1, 2, none⟩ = some (.map (some (Y'.mb nid))) ∧ MapAt wr (Y'.mb id) (encI o.frames) ∧
              MapAt wr (Y'.mb nid) (encI st.2) ∧ ¬ pf1 (Y.blk id) ∧ ¬ pf1 (w'.heap.size + 1) ∧ ¬ pf1 (Y'.mb nid) ∧ (w'.heap.size + 1 < wr.heap.size) ∧ (Y'.mb nid < wr.heap.size) by
            obtain ⟨e1, e2, e3, e4⟩ := HE.out
            have hno : (S1.with nid c st).at_ id = some { o with kids := o.kids ++ [nid] } := by rw [Vset.with_get, if_neg (fun h => Hne.out h.symm)]; exact HoS.out
            have hnc := Vset.with_at S1 nid c st
            have ho := R1.hdr _ (get_mem hno)
            have hc := R1.hdr _ (get_mem hnc)
            have hfo := R1.frs _ (get_mem hno) Hsl.out
            have hfc := R1.frs _ (get_mem hnc) Hcsl.out
            have hoo := R1.fh _ (get_mem hno)
            have hoc := R1.fh _ (get_mem hnc)
            have hmc := R1.ff _ (get_mem hnc) Hcsl.out
            simp only at ho hc hfo hfc hoo hoc hmc
            rw [e3] at ho hoo
            rw [e4] at hc hoc
            have ht := R1.top
            rw [e1, e2] at ht
            exact ⟨(cell_of (o := 0) ht).trans rfl, (cell_of (o := 2) ho).trans (by simp [ocells, framesV, Hsl.out]), (cell_of (o := 2) hc).trans (by simp [ocells, framesV, Hcsl.out]), hfo, hfc, fun h => R1.sep _ h hoo, fun h => R1.sep _ h hoc, fun h => R1.sep _ h hmc, hp_lt hc, hfc.lt⟩))
          go_loopg [54] T.length (fun g i wr => ∃ k : Nat, k ≤ T.length ∧ i = .int .i64 k ∧ T.length - k = g ∧ VKeep Y' (S1.with nid c (((numbered T).take k).foldl (share1 o.frames) (S.pool, []))) pf w3 wr)
          case atStart =>
            refine ⟨0, by omega, rfl, rfl, ?_⟩
            rw [show ((numbered T).take 0).foldl (share1 o.frames) (S.pool, []) = (S.pool, []) from rfl, ← Hpool.out, with_new HcS.out Hcfr.out]
            exact VKeep.refl HR3.out
          case round =>
            obtain ⟨k, hkl, rfl, rfl, pv1, pf1, hR1, hM1, hf1⟩ := hrel
            have HR1 := Lib.hid hR1
            have HM1 := Lib.hid hM1
            have Hf1 := Lib.hid hf1
            clear hR1 hM1 hf1
            by_cases hlt : k < T.length
            · have Hst := Lib.hid (show ((numbered T).take (k + 1)).foldl (share1 o.frames) (S.pool, []) = share1 o.frames (((numbered T).take k).foldl (share1 o.frames) (S.pool, [])) ((k : Int), nth T k) by
                rw [numbered_take hlt, List.foldl_append]; rfl)
              generalize ((numbered T).take k).foldl (share1 o.frames) (S.pool, []) = st at *
              have hv1 : IntsAt wr (.slice na T.length nc) T := HvI.out.of HM1.out.size (fun j hj hj2 => HM1.out.block j hj2 (by rintro (h | h); exact (Hvo.out j hj).1 h; exact (Hvo.out j hj).2.1 h))
              obtain ⟨a', c', he, _, hr'⟩ := hv1
              cases he
              obtain ⟨vb, voff, rfl, hvlt, hvc⟩ := hr' (by omega)
              have hce := hvc k hlt
              clear hvc hvlt hr'
              obtain ⟨c0, c2, c2n, hF, hFn, hn1, hn2, hn3, hl1, hl2⟩ := HX.out st wr pv1 pf1 HR1.out
              have hbo := World.block_lt_of_cell? wr _ c2
              have hl := looksF (Y'.mb id) (encI o.frames)
              have hup := updatesF (Y'.mb nid) (encI st.2)
              have hk := encI_get o.frames (nth T k)
              have HSh := Lib.hid (fun f => (show Calls Try.prog 47 #[ptr Y.pb, i64 f] wr (PPost Y.pb (st.1.share f).1 pf1 (i64 (st.1.share f).2) wr) from by
                have := pshare_calls HR1.out.pool f
                rw [HE.out.2.1] at this
                exact this))
              have Hend := Lib.hid (fun (q : Pool) (f : Int) (w4 : World) (pv2 : Value) (pf2 : Nat → Prop) (hP : PRep w4 Y.pb q pv2 pf2) (hM : Mods pf1 wr w4) (hf : ∀ k, pf2 k → pf1 k ∨ wr.heap.size ≤ k) =>
                (show VKeep Y' (S1.with nid c (q, put st.2 (k : Int) f)) pf w3 (mPut w4 (Y'.mb nid) (k : Int) (i64 f)) from
                  ⟨pv2, pf2, by
                    have hP' : PRep w4 Y'.pb q pv2 pf2 := by rw [HE.out.2.1]; exact hP
                    have := (HR1.out.pooled hP' hM hf).putFrame (S := { S1.with nid c st with pool := q }) (id := nid) (o := { c with frames := st.2 }) (Vset.with_at S1 nid c st) Hcsl.out (k : Int) f
                    rw [Vset.with_with] at this
                    exact this, (HM1.out.trans hM (fun i hi => by rcases Hf1.out i hi with h | h; exact .inl (.inl h); exact .inr h)).mPut (.inl (.inr (HR1.out.ff _ (get_mem (Vset.with_at S1 nid c st)) Hcsl.out))) _ _, fun i hi => by
                    rcases hf i hi with h | h
                    · exact Hf1.out i h
                    · exact .inr (Nat.le_trans HM1.out.size h)⟩))
              generalize hpp : nth T k = p at *
              clear hpp
              generalize encI st.2 = F' at hFn hup
              generalize encI o.frames = F at hF hl hk
              cases hp : get o.frames p with
              | none =>
                have Hc1 := Lib.hid (show share1 o.frames st ((k : Int), p) = st by simp [share1, hp])
                rw [hp] at hk
                clear hp
                go_wp2
                go_roundg (T.length - (k + 1))
                case measure => omega
                case rel => exact ⟨k + 1, by omega, by go_num, rfl, by rw [Hst.out, Hc1.out]; exact ⟨pv1, pf1, HR1.out, HM1.out, Hf1.out⟩⟩
              | some f =>
                have Hc1 := Lib.hid (show share1 o.frames st ((k : Int), p) = ((st.1.share f).1, put st.2 (k : Int) f) by simp [share1, hp])
                rw [hp] at hk
                clear hp
                go_wp2_with (go_at_call 47; refine (HSh.out _).mono ?_; rintro e w4 ⟨rfl, pv2, pf2, hP2, hM2, hf2⟩; have HP2 := Lib.hid hP2; have HM2 := Lib.hid hM2; have Hf2 := Lib.hid hf2; have c2' := (hM2.cell (p := ⟨w'.heap.size + 1, 2, none⟩) hl1 hn2).trans c2n; have hF' := hFn.of_block (hM2.block _ hl2 hn3); clear hP2 hM2 hf2)
                go_roundg (T.length - (k + 1))
                case measure => omega
                case rel => exact ⟨k + 1, by omega, by go_num, rfl, by rw [Hst.out, Hc1.out]; exact Hend.out _ _ _ _ _ HP2.out HM2.out Hf2.out⟩
            · have hkN : k = T.length := by omega
              subst hkN
              have Htk := Lib.hid (show (numbered T).take T.length = numbered T by rw [← numbered_len T, List.take_length])
              go_wp2
              go_ret2
              unfold MadePost
              rw [H.out]
              rw [Htk.out] at HR1
              have hMA := (MA.out (.map #[] 0) (.cells #[i64 n, i64 id, .map (some w'.heap.size), .slice none 0 0, .bool false, i64 0, i64 0, .bool false] tVobj))
              have hsz := hMA.size
              have hs2 := HM2.out.size
              have hM3 := (((hMA.mono (fun _ h => h.elim) : Mods (fun k => pf k ∨ Y.of k) _ _)).trans HM2.out (fun _ h => .inl (.inr h))).trans (HN.out.2.2.mono (fun _ h => h.elim) : Mods (fun _ => False) _ _) (fun _ h => h.elim)
              have hof : ∀ k, Y'.of k → Y.of k ∨ w'.heap.size ≤ k := fun k hk => by
                rcases Hf2.out k hk with h | h | h | h
                · exact .inl h
                · exact .inr (by omega)
                · exact .inr (by omega)
                · exact .inr (by omega)
              refine ⟨rfl, Y', pv1, pf1, HR1.out, HE.out.1, hM3.trans HM1.out (fun i hi => ?_), fun i hi => ?_⟩
              · rcases hi with hi | hi
                · exact .inl (.inl hi)
                · rcases hof i hi with h | h
                  · exact .inl (.inr h)
                  · exact .inr h
              · rcases hi with hi | hi
                · rcases Hf1.out i hi with h | h
                  · exact .inl h
                  · exact .inr (.inr (by have := hM3.size; omega))
                · exact .inr (hof i hi)
  · have H := Lib.hid (show S.snapshot id a n = (S, 0, S.window id a n) by simp [Vset.snapshot, hw])
    rw [show S.windowPtr Y id a n = .pointer none by simp [Vset.windowPtr, hw]] at HW
    have hwb : (S.window id a n == 0) = false := by simpa using hw
    clear R G hw
    generalize S.window id a n = st at *
    go_enter Try.func17, Try.ntmps17
    go_wp2_with (go_at_call 46; refine HW.out.mono ?_; rintro e w' ⟨rfl, rfl⟩)
    go_ret2
    unfold MadePost
    rw [H.out]
    exact ⟨rfl, VUpd.same HR.out (Mods.refl _ _)⟩
end
end Go.Proofs.Ytkifgoadbnpofaa
