/- ObjectPeers answers true, whatever it is given. Condition: the table of names stands. -/
import Derived.Test.YtkifgoadbnpofaaDoorAwake
import Derived.Test.YtkifgoadbnpofaaDoorPeersPure
namespace Go.Proofs.YtkifgoadbnpofaaDoor
open Go Go.RowKit
set_option maxRecDepth 100000

theorem st_show {w0 w : World} {o : Nat} {S : Obs} {fp : Nat → Prop} (h : St w0 w o S fp) {id : Int} {x : Hdr} (hg : S.at id = some x) (clr st : Int) {S' : Obs} (hm : (S.show id clr st).1 = S') :
    Calls Tryd.prog 14 #[ptr o, i64 id, i64 clr, i64 st] w fun e w' => ∃ v, e = .returned (.tuple #[v, i64 0]) ∧ St w0 w' o S' fp ∧ Mods fp w w' := by
  obtain ⟨m, blk, bg, R⟩ := h.rep
  refine (Show_calls R hg clr st).mono ?_
  rintro e w' ⟨v, he, _, _, h3, h4⟩
  rw [hm] at h3
  have M : Mods fp w w' := h4.mono (fun k hk => .inl (by subst hk; exact R.fh _ (get_mem hg)))
  exact ⟨v, he, h.same ⟨m, blk, bg, h3⟩ M, M⟩
theorem st_info {w0 w : World} {o : Nat} {S : Obs} {fp : Nat → Prop} (h : St w0 w o S fp) {id : Int} {x : Hdr} (hg : S.at id = some x) :
    Calls Tryd.prog 15 #[ptr o, i64 id] w fun e w' => e = .returned (.tuple #[.agg (infoCells x), .bool true]) ∧ St w0 w' o S fp ∧ Mods (fun _ => False) w w' := by
  obtain ⟨m, blk, bg, R⟩ := h.rep
  refine (info_calls R id).mono ?_
  rintro e w' ⟨he, M⟩
  rw [hg] at he
  exact ⟨he, h.grow M (fun _ h => h.elim), M⟩

set_option maxHeartbeats 1000000 in
theorem peers_bad {w : World} (hn : Named w) (kind s : Int) (first : Bool) (h : kind < 1 ∨ 11 < kind) : Calls Tryd.prog 4 #[i64 kind, i64 s, .bool first] w (TruePost w) := by
  have Hn := Lib.hid hn
  have Hb := Lib.hid h
  clear hn h
  by_cases h1 : kind < 1
  ·
    go_enter Tryd.func4, Tryd.ntmps4
    go_wp2_with (first
      | (go_at_call 6; refine (new_calls 4 (by decide) (by decide)).mono ?_; rintro e w1 ⟨o, fp, rfl, r, hf, M⟩; have S0 := Lib.hid (⟨r, M, hf, Hn.out⟩ : St w w1 o { most := 4 } fp); clear r hf M)
      | (go_at_call 7; refine (awake_calls S0.out.nm).mono ?_; rintro e w2 ⟨rfl, M2⟩))
    go_ret
    exact ⟨rfl, S0.out.mods.trans M2 (fun _ h => h.elim)⟩
  · have h2 : 11 < kind := by have := Hb.out; omega
    go_enter Tryd.func4, Tryd.ntmps4
    go_wp2_with (first
      | (go_at_call 6; refine (new_calls 4 (by decide) (by decide)).mono ?_; rintro e w1 ⟨o, fp, rfl, r, hf, M⟩; have S0 := Lib.hid (⟨r, M, hf, Hn.out⟩ : St w w1 o { most := 4 } fp); clear r hf M)
      | (go_at_call 7; refine (awake_calls S0.out.nm).mono ?_; rintro e w2 ⟨rfl, M2⟩))
    go_ret
    exact ⟨rfl, S0.out.mods.trans M2 (fun _ h => h.elim)⟩


set_option maxHeartbeats 2000000 in
theorem peers_true {w : World} (hn : Named w) (kind s : Int) (h1 : 1 ≤ kind) (h2 : kind ≤ 11) : Calls Tryd.prog 4 #[i64 kind, i64 s, .bool true] w (TruePost w) := by
  have Hn := Lib.hid hn
  have Hk := Lib.hid (show ¬ (kind < 1 ∨ 11 < kind) by omega)
  have Hm1 := Lib.hid (peers_make1 Hk.out)
  have Hm2 := Lib.hid (peers_make2 Hk.out)
  have Hsh := Lib.hid (shown (firstShows kind) s)
  clear hn
  go_enter Tryd.func4, Tryd.ntmps4
  go_wp2_with (go_at_call 6; refine (new_calls 4 (by decide) (by decide)).mono ?_; rintro e w1 ⟨o, fp, rfl, r, hf, M⟩; have S0 := Lib.hid (⟨r, M, hf, Hn.out⟩ : St w w1 o { most := 4 } fp); clear r hf M)
  refine (st_make S0.out (by decide +kernel) Hm1.out).mono ?_
  rintro e w2 ⟨rfl, fp2, s1, _, _⟩
  have S1 := Lib.hid s1
  clear s1 S0
  go_wp2_with fail
  refine (st_make S1.out (by show get [(1, newHdr kind)] _ = none; rw [show wrap64 (1 + 1) = 2 from wr2]; rfl) Hm2.out).mono ?_
  rintro e w3 ⟨rfl, fp3, s2, _, _⟩
  have S2 := Lib.hid s2
  clear s2 S1
  go_wp2_with fail
  refine (st_pair S2.out (peers_pair kind)).mono ?_
  rintro e w4 ⟨rfl, fp4, s3, _, _⟩
  have S3 := Lib.hid s3
  clear s3 S2
  generalize hf0 : firstShows kind = f at *
  clear hf0
  generalize hsi : newShows f 6 (bits .andNot .i64 s 6) = si at *
  have Hsi := Lib.hid hsi
  clear hsi
  go_wp2_with fail
  refine (st_show S3.out (x := { kind := kind, peer := 1, refs := 1, shows := f, paired := true }) rfl 6 _ (by rw [peers_show2, Hsi.out])).mono ?_
  rintro e w5 ⟨v5, rfl, s4, _⟩
  have S4 := Lib.hid s4
  clear s4 S3
  go_wp2_with fail
  refine (st_info S4.out (x := { kind := kind, peer := 1, refs := 1, shows := si, paired := true }) rfl).mono ?_
  rintro e w6 ⟨he6, s5, _⟩
  simp only [infoCells] at he6
  subst he6
  have S5 := Lib.hid s5
  have hlt6 : w6.heap.size < (w6.alloc (.cells #[.int .i64 0] tInt)).heap.size := by simp
  clear s5 S4 hlt6
  go_wp2_with fail
  have S5a := Lib.hid (S5.out.alloc (.cells #[i64 kind, i64 1, i64 1, i64 0, i64 0, i64 0, i64 si] 41))
  have hbi : ¬ fp4 w6.heap.size := fun hf => absurd (S5.out.lt _ hf) (Nat.lt_irrefl _)
  have hi6 := hp_alloc_new w6 (.cells #[i64 kind, i64 1, i64 1, i64 0, i64 0, i64 0, i64 si] 41)
  have hs6 : (w6.alloc (.cells #[i64 kind, i64 1, i64 1, i64 0, i64 0, i64 0, i64 si] 41)).heap.size = w6.heap.size + 1 := by simp
  have Ht := Lib.hid (show newShows si 2 4 = bits .or .i64 si 4 by unfold newShows; rw [Hsh.out.1])
  have Hne := Lib.hid (show bits .or .i64 si 4 ≠ si by have := Hsh.out.2; exact this)
  refine (st_unref (S5a.out.alloc _) (one_int' _ _ _ (by simp)) (fun k hk => by cases hk; exact ⟨by simp, fun hf => by have := S5.out.lt _ hf; simp only at this; omega⟩) (by simp [weight, Q]) (peers_unref1 Ht.out Hne.out)).mono ?_
  rintro e w7 ⟨v7, rfl, hr7, hf7, s6, hm7⟩
  have S6 := Lib.hid s6
  have hsh7 : ∃ g off c, v7 = .slice (some ⟨g, off, none⟩) 2 c := by
    rcases hr7.2 with ⟨_, h⟩ | ⟨g, off, cap, cur, h, _⟩
    · simp at h
    · exact ⟨_, _, _, h⟩
  obtain ⟨g7, off7, c7, rfl⟩ := hsh7
  have hi7 : w7.heap[w6.heap.size]? = some (.cells #[i64 kind, i64 1, i64 1, i64 0, i64 0, i64 0, i64 si] 41 (0, 0)) := by
    rw [hm7.block _ (by simp; omega) hbi, hp_alloc_old _ _ _ (by simp)]; exact hi6
  have Hr7 := Lib.hid hr7
  have Hi7 := Lib.hid hi7
  clear hr7 hi7 hi6 hm7 s6 hf7 hs6
  go_wp2_with fail
  refine (st_info S6.out (x := { kind := kind, peer := 0, refs := 1, shows := bits .or .i64 si 4, paired := true }) (by simp [Q1, Obs.at, get])).mono ?_
  rintro e w8 ⟨he8, s7, hm8⟩
  simp only [infoCells] at he8
  subst he8
  have S7 := Lib.hid s7
  have S7a := Lib.hid (s7.alloc (.cells #[i64 kind, i64 0, i64 1, i64 0, i64 0, i64 0, i64 (bits .or .i64 si 4)] 41))
  have hr8 := Hr7.out.mods hm8 (fun _ _ h => h)
  have hr9 := hr8.mods (((Mods.refl (fun _ => False) w8).alloc (.cells #[i64 kind, i64 0, i64 1, i64 0, i64 0, i64 0, i64 (bits .or .i64 si 4)] 41))) (fun _ _ h => h)
  have hi8 : w8.heap[w6.heap.size]? = _ := (hm8.block _ (hp_lt Hi7.out) (fun h => h)).trans Hi7.out
  have hi9 := (hp_alloc_old w8 (.cells #[i64 kind, i64 0, i64 1, i64 0, i64 0, i64 0, i64 (bits .or .i64 si 4)] 41) _ (hp_lt hi8)).trans hi8
  have hj9 := hp_alloc_new w8 (.cells #[i64 kind, i64 0, i64 1, i64 0, i64 0, i64 0, i64 (bits .or .i64 si 4)] 41)
  have q1 := hr9.cells 0 _ rfl
  have q2 := hr9.cells 3 _ rfl
  have q3 := hr9.cells 5 _ rfl
  have q4 := (cell_of (o := 6) hi9).trans rfl
  have q5 := (cell_of (o := 1) hj9).trans rfl
  have q6 := (cell_of (o := 6) hj9).trans rfl
  have Hq := Lib.hid (And.intro q1 (And.intro q2 (And.intro q3 (And.intro q4 (And.intro q5 q6)))))
  clear q1 q2 q3 q4 q5 q6 hr8 hr9 hi8 hi9 hj9 s7 S5 S5a hbi
  go_wp2
  have q1 : (w8.alloc (.cells #[i64 kind, i64 0, i64 1, i64 0, i64 0, i64 0, i64 (bits .or .i64 si 4)] 41)).cell? ⟨g7, off7, none⟩ = some (.int .i64 1) := Hq.out.1
  have q2 : (w8.alloc (.cells #[i64 kind, i64 0, i64 1, i64 0, i64 0, i64 0, i64 (bits .or .i64 si 4)] 41)).cell? ⟨g7, off7 + 3, none⟩ = some (.int .i64 2) := Hq.out.2.1
  have q3 : (w8.alloc (.cells #[i64 kind, i64 0, i64 1, i64 0, i64 0, i64 0, i64 (bits .or .i64 si 4)] 41)).cell? ⟨g7, off7 + 3 + 2, none⟩ = some (.int .i64 (bits .or .i64 si 4)) := Hq.out.2.2.1
  have q4 : (w8.alloc (.cells #[i64 kind, i64 0, i64 1, i64 0, i64 0, i64 0, i64 (bits .or .i64 si 4)] 41)).cell? ⟨w6.heap.size, 6, none⟩ = some (.int .i64 si) := Hq.out.2.2.2.1
  have q5 : (w8.alloc (.cells #[i64 kind, i64 0, i64 1, i64 0, i64 0, i64 0, i64 (bits .or .i64 si 4)] 41)).cell? ⟨w8.heap.size, 1, none⟩ = some (.int .i64 0) := Hq.out.2.2.2.2.1
  have q6 : (w8.alloc (.cells #[i64 kind, i64 0, i64 1, i64 0, i64 0, i64 0, i64 (bits .or .i64 si 4)] 41)).cell? ⟨w8.heap.size, 6, none⟩ = some (.int .i64 (bits .or .i64 si 4)) := Hq.out.2.2.2.2.2
  generalize hW9 : w8.alloc (.cells #[i64 kind, i64 0, i64 1, i64 0, i64 0, i64 0, i64 (bits .or .i64 si 4)] 41) = W9 at *
  clear hW9 Hq Hi7 Hr7
  go_quiet (fail)
  go_wp2_with fail
  have S9 := Lib.hid (S7a.out.grow (F := fun _ => False) ((Mods.refl _ _).drewN nq) (fun _ h => h.elim))
  refine (st_unref (S9.out.alloc _) (one_int' _ _ _ (by simp)) (fun k hk => by cases hk; exact ⟨by simp, fun hf => by have := S9.out.lt _ hf; simp at this⟩) (by simp [weight, Q1]) (peers_last 2 kind (bits .or .i64 si 4))).mono ?_
  rintro e w10 ⟨v10, rfl, hr10, _, s10, _⟩
  have S10 := Lib.hid s10
  have hsh10 : ∃ g off c, v10 = .slice (some ⟨g, off, none⟩) 1 c := by
    rcases hr10.2 with ⟨_, h⟩ | ⟨g, off, cap, cur, h, _⟩
    · simp at h
    · exact ⟨_, _, _, h⟩
  obtain ⟨g10, off10, c10, rfl⟩ := hsh10
  have r1 : w10.cell? ⟨g10, off10 + 1, none⟩ = some (.bool true) := hr10.cells 1 _ rfl
  have Hcnt := Lib.hid (st_count S10.out)
  clear hr10 s10 q1 q2 q3 q4 q5 q6
  go_wp2_with (first
    | (go_at_call 12; refine Hcnt.out.mono ?_; rintro e w11 ⟨rfl, rfl⟩)
    | (go_at_call 7; refine (awake_calls S10.out.nm).mono ?_; rintro e w12 ⟨rfl, M12⟩))
  go_ret
  exact ⟨rfl, S10.out.mods.trans M12 (fun _ h => h.elim)⟩

set_option maxHeartbeats 2000000 in
theorem peers_false {w : World} (hn : Named w) (kind s : Int) (h1 : 1 ≤ kind) (h2 : kind ≤ 11) : Calls Tryd.prog 4 #[i64 kind, i64 s, .bool false] w (TruePost w) := by
  have Hn := Lib.hid hn
  have Hk := Lib.hid (show ¬ (kind < 1 ∨ 11 < kind) by omega)
  have Hm1 := Lib.hid (peers_make1 Hk.out)
  have Hm2 := Lib.hid (peers_make2 Hk.out)
  have Hsh := Lib.hid (shown (firstShows kind) s)
  clear hn
  go_enter Tryd.func4, Tryd.ntmps4
  go_wp2_with (go_at_call 6; refine (new_calls 4 (by decide) (by decide)).mono ?_; rintro e w1 ⟨o, fp, rfl, r, hf, M⟩; have S0 := Lib.hid (⟨r, M, hf, Hn.out⟩ : St w w1 o { most := 4 } fp); clear r hf M)
  refine (st_make S0.out (by decide +kernel) Hm1.out).mono ?_
  rintro e w2 ⟨rfl, fp2, s1, _, _⟩
  have S1 := Lib.hid s1
  clear s1 S0
  go_wp2_with fail
  refine (st_make S1.out (by show get [(1, newHdr kind)] _ = none; rw [show wrap64 (1 + 1) = 2 from wr2]; rfl) Hm2.out).mono ?_
  rintro e w3 ⟨rfl, fp3, s2, _, _⟩
  have S2 := Lib.hid s2
  clear s2 S1
  go_wp2_with fail
  refine (st_pair S2.out (peers_pair kind)).mono ?_
  rintro e w4 ⟨rfl, fp4, s3, _, _⟩
  have S3 := Lib.hid s3
  clear s3 S2
  generalize hf0 : firstShows kind = f at *
  clear hf0
  generalize hsi : newShows f 6 (bits .andNot .i64 s 6) = si at *
  have Hsi := Lib.hid hsi
  clear hsi
  go_wp2_with fail
  refine (st_show S3.out (x := { kind := kind, peer := 2, refs := 1, shows := f, paired := true }) rfl 6 _ (by rw [peers_show1, Hsi.out])).mono ?_
  rintro e w5 ⟨v5, rfl, s4, _⟩
  have S4 := Lib.hid s4
  clear s4 S3
  go_wp2_with fail
  refine (st_info S4.out (x := { kind := kind, peer := 2, refs := 1, shows := si, paired := true }) rfl).mono ?_
  rintro e w6 ⟨he6, s5, _⟩
  simp only [infoCells] at he6
  subst he6
  have S5 := Lib.hid s5
  have hlt6 : w6.heap.size < (w6.alloc (.cells #[.int .i64 0] tInt)).heap.size := by simp
  clear s5 S4 hlt6
  go_wp2_with fail
  have S5a := Lib.hid (S5.out.alloc (.cells #[i64 kind, i64 2, i64 1, i64 0, i64 0, i64 0, i64 si] 41))
  have hbi : ¬ fp4 w6.heap.size := fun hf => absurd (S5.out.lt _ hf) (Nat.lt_irrefl _)
  have hi6 := hp_alloc_new w6 (.cells #[i64 kind, i64 2, i64 1, i64 0, i64 0, i64 0, i64 si] 41)
  have hs6 : (w6.alloc (.cells #[i64 kind, i64 2, i64 1, i64 0, i64 0, i64 0, i64 si] 41)).heap.size = w6.heap.size + 1 := by simp
  have Ht := Lib.hid (show newShows si 2 4 = bits .or .i64 si 4 by unfold newShows; rw [Hsh.out.1])
  have Hne := Lib.hid (show bits .or .i64 si 4 ≠ si by have := Hsh.out.2; exact this)
  refine (st_unref (S5a.out.alloc _) (one_int' _ _ _ (by simp)) (fun k hk => by cases hk; exact ⟨by simp, fun hf => by have := S5.out.lt _ hf; simp only at this; omega⟩) (by simp [weight, Q]) (peers_unref2 Ht.out Hne.out)).mono ?_
  rintro e w7 ⟨v7, rfl, hr7, hf7, s6, hm7⟩
  have S6 := Lib.hid s6
  have hsh7 : ∃ g off c, v7 = .slice (some ⟨g, off, none⟩) 2 c := by
    rcases hr7.2 with ⟨_, h⟩ | ⟨g, off, cap, cur, h, _⟩
    · simp at h
    · exact ⟨_, _, _, h⟩
  obtain ⟨g7, off7, c7, rfl⟩ := hsh7
  have hi7 : w7.heap[w6.heap.size]? = some (.cells #[i64 kind, i64 2, i64 1, i64 0, i64 0, i64 0, i64 si] 41 (0, 0)) := by
    rw [hm7.block _ (by simp; omega) hbi, hp_alloc_old _ _ _ (by simp)]; exact hi6
  have Hr7 := Lib.hid hr7
  have Hi7 := Lib.hid hi7
  clear hr7 hi7 hi6 hm7 s6 hf7 hs6
  go_wp2_with fail
  refine (st_info S6.out (x := { kind := kind, peer := 0, refs := 1, shows := bits .or .i64 si 4, paired := true }) (by simp [Q1, Obs.at, get])).mono ?_
  rintro e w8 ⟨he8, s7, hm8⟩
  simp only [infoCells] at he8
  subst he8
  have S7 := Lib.hid s7
  have S7a := Lib.hid (s7.alloc (.cells #[i64 kind, i64 0, i64 1, i64 0, i64 0, i64 0, i64 (bits .or .i64 si 4)] 41))
  have hr8 := Hr7.out.mods hm8 (fun _ _ h => h)
  have hr9 := hr8.mods (((Mods.refl (fun _ => False) w8).alloc (.cells #[i64 kind, i64 0, i64 1, i64 0, i64 0, i64 0, i64 (bits .or .i64 si 4)] 41))) (fun _ _ h => h)
  have hi8 : w8.heap[w6.heap.size]? = _ := (hm8.block _ (hp_lt Hi7.out) (fun h => h)).trans Hi7.out
  have hi9 := (hp_alloc_old w8 (.cells #[i64 kind, i64 0, i64 1, i64 0, i64 0, i64 0, i64 (bits .or .i64 si 4)] 41) _ (hp_lt hi8)).trans hi8
  have hj9 := hp_alloc_new w8 (.cells #[i64 kind, i64 0, i64 1, i64 0, i64 0, i64 0, i64 (bits .or .i64 si 4)] 41)
  have q1 := hr9.cells 0 _ rfl
  have q2 := hr9.cells 3 _ rfl
  have q3 := hr9.cells 5 _ rfl
  have q4 := (cell_of (o := 6) hi9).trans rfl
  have q5 := (cell_of (o := 1) hj9).trans rfl
  have q6 := (cell_of (o := 6) hj9).trans rfl
  have Hq := Lib.hid (And.intro q1 (And.intro q2 (And.intro q3 (And.intro q4 (And.intro q5 q6)))))
  clear q1 q2 q3 q4 q5 q6 hr8 hr9 hi8 hi9 hj9 s7 S5 S5a hbi
  go_wp2
  have q1 : (w8.alloc (.cells #[i64 kind, i64 0, i64 1, i64 0, i64 0, i64 0, i64 (bits .or .i64 si 4)] 41)).cell? ⟨g7, off7, none⟩ = some (.int .i64 2) := Hq.out.1
  have q2 : (w8.alloc (.cells #[i64 kind, i64 0, i64 1, i64 0, i64 0, i64 0, i64 (bits .or .i64 si 4)] 41)).cell? ⟨g7, off7 + 3, none⟩ = some (.int .i64 1) := Hq.out.2.1
  have q3 : (w8.alloc (.cells #[i64 kind, i64 0, i64 1, i64 0, i64 0, i64 0, i64 (bits .or .i64 si 4)] 41)).cell? ⟨g7, off7 + 3 + 2, none⟩ = some (.int .i64 (bits .or .i64 si 4)) := Hq.out.2.2.1
  have q4 : (w8.alloc (.cells #[i64 kind, i64 0, i64 1, i64 0, i64 0, i64 0, i64 (bits .or .i64 si 4)] 41)).cell? ⟨w6.heap.size, 6, none⟩ = some (.int .i64 si) := Hq.out.2.2.2.1
  have q5 : (w8.alloc (.cells #[i64 kind, i64 0, i64 1, i64 0, i64 0, i64 0, i64 (bits .or .i64 si 4)] 41)).cell? ⟨w8.heap.size, 1, none⟩ = some (.int .i64 0) := Hq.out.2.2.2.2.1
  have q6 : (w8.alloc (.cells #[i64 kind, i64 0, i64 1, i64 0, i64 0, i64 0, i64 (bits .or .i64 si 4)] 41)).cell? ⟨w8.heap.size, 6, none⟩ = some (.int .i64 (bits .or .i64 si 4)) := Hq.out.2.2.2.2.2
  generalize hW9 : w8.alloc (.cells #[i64 kind, i64 0, i64 1, i64 0, i64 0, i64 0, i64 (bits .or .i64 si 4)] 41) = W9 at *
  clear hW9 Hq Hi7 Hr7
  go_quiet (fail)
  go_wp2_with fail
  have S9 := Lib.hid (S7a.out.grow (F := fun _ => False) ((Mods.refl _ _).drewN nq) (fun _ h => h.elim))
  refine (st_unref (S9.out.alloc _) (one_int' _ _ _ (by simp)) (fun k hk => by cases hk; exact ⟨by simp, fun hf => by have := S9.out.lt _ hf; simp at this⟩) (by simp [weight, Q1]) (peers_last 1 kind (bits .or .i64 si 4))).mono ?_
  rintro e w10 ⟨v10, rfl, hr10, _, s10, _⟩
  have S10 := Lib.hid s10
  have hsh10 : ∃ g off c, v10 = .slice (some ⟨g, off, none⟩) 1 c := by
    rcases hr10.2 with ⟨_, h⟩ | ⟨g, off, cap, cur, h, _⟩
    · simp at h
    · exact ⟨_, _, _, h⟩
  obtain ⟨g10, off10, c10, rfl⟩ := hsh10
  have r1 : w10.cell? ⟨g10, off10 + 1, none⟩ = some (.bool true) := hr10.cells 1 _ rfl
  have Hcnt := Lib.hid (st_count S10.out)
  clear hr10 s10 q1 q2 q3 q4 q5 q6
  go_wp2_with (first
    | (go_at_call 12; refine Hcnt.out.mono ?_; rintro e w11 ⟨rfl, rfl⟩)
    | (go_at_call 7; refine (awake_calls S10.out.nm).mono ?_; rintro e w12 ⟨rfl, M12⟩))
  go_ret
  exact ⟨rfl, S10.out.mods.trans M12 (fun _ h => h.elim)⟩

theorem peers_law {w : World} (hn : Named w) (kind s : Int) (first : Bool) : Calls Tryd.prog 4 #[i64 kind, i64 s, .bool first] w (TruePost w) := by
  by_cases h : kind < 1 ∨ 11 < kind
  · exact peers_bad hn kind s first h
  · cases first
    · exact peers_false hn kind s (by omega) (by omega)
    · exact peers_true hn kind s (by omega) (by omega)
end Go.Proofs.YtkifgoadbnpofaaDoor
