/- Same and Copy of the reference of layer 7; layer 8's fixed call 'awake' answers true. -/
import Derived.Test.YtkifgoadbnpofaaVs
import Derived.Laws.BytesArg
namespace Go.Proofs.Ytkifgoadbnpofaa
open Go Go.RowKit
set_option maxRecDepth 100000

theorem conv_bytes {w : World} {v : Value} {l : List Int} (h : BytesAt w v l) : (convert 22 9 v).run Try.prog w = .ok (.string (strOfNums l)) w := by
  obtain ⟨a, c, rfl, _, _, hr⟩ := h
  by_cases h0 : 0 < l.length
  · obtain ⟨b, off, rfl, _, hc⟩ := hr h0
    exact run_convert_bytes_arg w 22 5 Try.underlying22 Try.underlying5 b off l.length c l rfl (fun i hi => by rw [hc i hi]; rfl) 9 Try.underlying9
  · have : l = [] := List.eq_nil_of_length_eq_zero (by omega)
    subst this
    cases a with
    | none => exact run_convert_bytes_nil w 22 5 Try.underlying22 Try.underlying5 0 c 9 Try.underlying9
    | some ad =>
      rw [run_convert_bytes_string w 22 9 5 _ _ c Try.underlying22 Try.underlying5 Try.underlying9]
      exact run_bytesToString w ad 0 c [] (run_loadCells_list (P := Try.prog) w ad [] (by simp))

section
variable {w : World}
set_option maxHeartbeats 400000 in
theorem same_calls {v1 v2 : Value} {l : List Int} (h1 : BytesAt w v1 l) (h2 : BytesAt w v2 l) : Calls Try.prog 19 #[v1, v2] w fun e w' => e = .returned (.bool true) ∧ w' = w := by
  have c1 := conv_bytes h1
  have c2 := conv_bytes h2
  generalize strOfNums l = t at *
  clear h1 h2
  go_enter Try.func19, Try.ntmps19
  go_wp2
  go_ret
  exact ⟨rfl, rfl⟩
set_option maxHeartbeats 1000000 in
theorem copyb_calls {v : Value} {l : List Int} (h : BytesAt w v l) (hs : l.length ≤ 140737488355328) : Calls Try.prog 20 #[v] w (BClonePost w l) := by
  obtain ⟨i0, hi, hz0, hz1, hz2⟩ := info_parts infoByte
  have Hsrc := Lib.hid h.src
  obtain ⟨a, c, rfl, hcap, hmax, hr⟩ := h
  have Hm := Lib.hid (show 0 + l.length ≤ maxLen by omega)
  have Hb := Lib.hid (show (0 + l.length) * 1 ≤ 140737488355328 by omega)
  clear hcap hr hmax
  go_enter Try.func20, Try.ntmps20
  go_wp2_with (at_builtin; refine wpList_append_row (v := .slice none 0 0) rfl (.tmp 4) (.tmp 5) 22 rfl tByte i0 (.int .u8 0) 1 1 Try.underlying22 hi hz0 hz1 hz2 rfl (by decide) rfl (Row.nil _ _ _) rfl Hsrc.out Hm.out Hb.out ?_; intro v' w1 hrow hgr hblk hz; have Hr1 := Lib.hid hrow; have Hg1 := Lib.hid hgr; have Hb1 := Lib.hid hblk; clear hrow hgr hblk hz)
  go_ret
  refine ⟨v', rfl, ?_, ?_, (Mods.refl _ _).grown Hg1.out (fun k hk => by cases hk)⟩
  · have := Hr1.out
    simpa using this
  · intro k hk
    rcases Hb1.out with h | h
    · rw [h] at hk; cases hk
    · rw [h] at hk; cases hk; exact Nat.le_refl _
end

/-- A literal of bytes, converted: its block is marked, nothing else. -/
theorem conv_lit (w : World) (C : Array Value) (l c : Nat) : (convert 22 22 (.slice (some ⟨w.heap.size, 0, none⟩) l c)).run Try.prog (w.alloc (.cells C 5)) = .ok (.slice (some ⟨w.heap.size, 0, none⟩) l c) (w.alloc (.cells C 5 (C.size, C.size + 1))) := by
  have hsh : (w.alloc (.cells C 5)).shape? w.heap.size = some (5, C.size) := by
    unfold World.shape?
    rw [hp_alloc_new]
  have hfr : (w.alloc (.cells C 5)).freeze ⟨w.heap.size, C.size, none⟩ 1 = w.alloc (.cells C 5 (C.size, C.size + 1)) := by
    have hm : ∀ (a : Array Obj) (x : Obj) (f : Obj → Obj), (a.push x).modify a.size f = a.push (f x) := by
      intro a x f
      apply Array.ext
      · simp
      · intro i h1 h2
        simp only [Array.getElem_modify, Array.getElem_push]
        by_cases h : a.size = i
        · subst h
          simp
        · have hi : i < a.size := by simp at h1; omega
          simp [h, hi]
    unfold World.freeze
    rw [if_neg (by decide)]
    show ({ w.alloc (.cells C 5) with heap := (w.heap.push (.cells C 5)).modify w.heap.size _ } : World) = _
    rw [hm]
    rfl
  simp [convert, run_underlying Try.underlying22, run_underlying Try.underlying5, markStringish, hsh]
  exact hfr
theorem good_new {n o : Int} (h0 : 0 ≤ n) (h1 : n ≤ 65536) (h2 : 0 ≤ o) (h3 : o ≤ 65536) : Good ⟨⟨[], n, 0⟩, [], o, 0⟩ := by
  refine ⟨⟨h0, h1, by simpa using h0, rfl, by simp, by simp [refs], by simp⟩, by simp, h2, h3, by simpa using h2, Int.le_refl _, ?_, ?_, ?_, ?_, ?_, ?_, ?_, ?_, ?_, ?_, ?_⟩ <;> simp
def aw0 : Vset := ⟨⟨[], 4, 0⟩, [], 4, 0⟩
def aw1 : Vset := (aw0.create 100).1
def aw2 : Vset := (aw1.write 1 0 [97, 98]).1
theorem aw0g : Good aw0 := good_new (by decide) (by decide) (by decide) (by decide)
theorem aw0c : aw0.create 100 = (aw1, 1, 0) := by decide +kernel
theorem aw1g : Good aw1 := by
  obtain ⟨S', e, G, _⟩ := aw0g.create (n := 100) (by decide) (by decide) (by decide) (by decide)
  have : aw1 = S' := by unfold aw1; rw [e]
  rw [this]; exact G
theorem aw1i : infoCells (aw1.at_ 1) = #[i64 128, i64 0, i64 0, i64 0, .bool false, .bool false] := by
  have e : aw1.at_ 1 = some ⟨128, 0, [], [], false, 0, 0, false⟩ := by decide +kernel
  rw [e]; rfl
theorem aw1s : (aw1.at_ 1).isSome = true := by decide +kernel
theorem aw1r : aw1.read 1 0 2 = ([0, 0], 0) := by decide +kernel
theorem aw1w : aw1.write 1 0 [97, 98] = (aw2, 0) := by decide +kernel
theorem aw2u : aw2.pool.cap - aw2.pool.used = 3 := by decide +kernel
theorem aw1h : Has aw1 1 128 false 0 := ⟨⟨128, 0, [], [], false, 0, 0, false⟩, by decide +kernel, rfl, rfl, rfl⟩
theorem aw2g : Good aw2 := by
  obtain ⟨o, h1, _⟩ := aw1h
  have hs : o.size = 128 := by
    have e : aw1.find 1 = some ⟨128, 0, [], [], false, 0, 0, false⟩ := by decide +kernel
    rw [e] at h1; cases h1; rfl
  rcases aw1g.write (id := 1) (a := 0) (l := [97, 98]) h1 (by decide) (by rw [hs]; decide) with ⟨_, h⟩ | ⟨_, _, h, _⟩
  · have h2 := aw1w
    rw [h] at h2
    have := congrArg Prod.snd h2
    simp at this
  · exact h.good
theorem bytes_of_cells {w : World} {b : Nat} {l : List Int} {t : TypeId} {fz : Nat × Nat} (h : w.heap[b]? = some (.cells (l.map u8).toArray t fz)) (hm : l.length ≤ maxLen) : BytesAt w (.slice (some ⟨b, 0, none⟩) l.length l.length) l :=
  ⟨_, _, rfl, Nat.le_refl _, hm, fun _ => ⟨b, 0, rfl, hp_lt h, fun j hj => by rw [cell_of h, nth_get (by omega)]; simp [hj]⟩⟩
theorem Beside.fresh {w0 w : World} {s : Nat} {S : Vset} {fp : Nat → Prop} (h : Vs w0 w s S fp) (l : List Int) (fz : Nat × Nat) (hm : l.length ≤ maxLen) :
    Beside (w.alloc (.cells (l.map u8).toArray tByte fz)) fp (.slice (some ⟨w.heap.size, 0, none⟩) l.length l.length) l :=
  ⟨bytes_of_cells (hp_alloc_new w _) hm, fun k hk hf => by
    have h1 := h.lt k hf
    have h2 := hk.2
    simp [Value.ownBlock] at h2
    omega⟩
set_option maxHeartbeats 2000000 in
theorem awake_calls {w0 w : World} (M : Mods (fun _ => False) w0 w) : Calls Try.prog 13 #[] w fun e w' => e = .returned (.bool true) ∧ Mods (fun _ => False) w0 w' := by
  have HM := Lib.hid M
  have HN := Lib.hid (vs_new M (n := 4) (o := 4) (by decide) (by decide) (by decide) (by decide))
  clear M
  have hcv := conv_lit
  go_enter Try.func13, Try.ntmps13
  go_wp2_with (first
    | (go_at_call 12; refine HN.out.mono ?_; rintro e w1 ⟨s, f1, rfl, h1, _, _⟩; have H1 := Lib.hid (show Vs w0 w1 s aw0 f1 from h1); clear h1)
    | (go_at_call 14; refine (H1.out.create aw0g (by decide) 100).mono ?_; rw [aw0c]; rintro e w2 ⟨rfl, f2, h2, _, _⟩; have H2 := Lib.hid h2; clear h2)
    | (go_at_call 21; refine (H2.out.info 1).mono ?_; rw [aw1i, aw1s]; rintro e w3 ⟨rfl, m3⟩; have H3 := Lib.hid (H2.out.quiet m3); clear m3)
    | (go_at_call 16; go_loud (refine ((H3.out.alloc _).read aw1g 1 0 2).mono ?_; rw [aw1r]; rintro e w4 ⟨v4, rfl, n4⟩; obtain ⟨a4, c4, rfl⟩ := n4.1.shape; have H4 := Lib.hid ((H3.out.alloc _).quiet n4.2.2); have q4 : w4.cell? ⟨w3.heap.size, 0, none⟩ = some (.int .i64 128) := (n4.2.2.cell (p := ⟨w3.heap.size, 0, none⟩) (by simp) (fun h => h)).trans ((cell_of (hp_alloc_new w3 _)).trans rfl); have HB := Lib.hid (Beside.fresh H4.out [97, 98] (2, 3) (by decide)); clear n4))
    | (go_at_call 15; refine ((H4.out.alloc _).write aw1g 1 0 HB.out).mono ?_; rw [aw1w]; rintro e w5 ⟨rfl, f5, h5, _, _⟩; have H5 := Lib.hid h5; clear h5)
    | (go_at_call 23; refine (H5.out.room aw2g).mono ?_; rw [aw2u]; rintro e w6 ⟨rfl, n6, rfl⟩))
  go_ret
  exact ⟨rfl, H5.out.mods.drewN _⟩
end Go.Proofs.Ytkifgoadbnpofaa
