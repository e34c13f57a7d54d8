/- The statement VmoApartSaid: for every input the law returns true and the argument reads as it did. Conditions: none. -/
import Derived.Test.YtkifgoadbnpofaaLaw
import Derived.Test.YtkifgoadbnpofaaVmoApartPure
namespace Go.Proofs.Ytkifgoadbnpofaa.vmoApart
open Go Go.RowKit Go.ChangeShapes Go.WideShapes Go.ChangeAt
set_option maxRecDepth 100000

def Ok (w : World) (e : Ending) (w' : World) : Prop := e = .returned (.bool true) ∧ Mods (fun _ => False) w w'
def s0 : Vset := ⟨⟨[], 64, 0⟩, [], 8, 0⟩
theorem g0 : Good s0 := good_new (by decide) (by decide) (by decide) (by decide)
/-- copy(want[a:], m). -/
theorem copy_into {w : World} {v u : Value} {l m : List Int} {a : Nat} (hr : Row w tByte 1 v l.length (l.map u8)) (hu : BytesAt w u m) (h : a + m.length ≤ l.length) (ha : a < l.length) :
    ∃ v' w2, (∀ W, (Instr.slice 22 v (some (.int .i64 a)) none none).run Try.prog W = .ok v' W) ∧ (Builtin.copy_ #[22, 22] 3 #[v', u]).run Try.prog w = .ok (goInt m.length) w2 ∧
      BytesAt w2 v (splice l a m) ∧ Row w2 tByte 1 v (splice l a m).length ((splice l a m).map u8) ∧ Mods (fun k => v.ownBlock = some k) w w2 := by
  have hsz : (Try.prog.info? 5).map (·.size) = some 1 := by kernel_rfl
  obtain ⟨ua, uc, rfl, _, hum, hur⟩ := hu
  rcases hr.2 with ⟨_, h0⟩ | ⟨g, off, cap, cur, rfl, hg, hnc, hcm, hcs, hct⟩
  · omega
  have hsp := splice_len h
  have R2 : Row (w.setCells g (off + a) (m.map u8)) tByte 1 (.slice (some ⟨g, off, none⟩) l.length cap) l.length ((splice l a m).map u8) := by
    have := hr.setCells (m.map u8) a w _ (by simp; omega)
    simpa [splice, List.map_take, List.map_drop] using this
  refine ⟨.slice (some ⟨g, off + a, none⟩) (l.length - a) (cap - a), w.setCells g (off + a) (m.map u8), fun W => ?_, ?_, BytesAt.ofRow (by rw [hsp]; exact R2) (by rw [hsp]; omega), by rw [hsp]; exact R2, ?_⟩
  · simp [Instr.slice, run_underlying Try.underlying22, Instr.sliceBounds, Instr.sliceBound, asIntOf, Result.andThen, Try.sizeOf5]
    rw [if_pos (by omega)]
    simp [add_lit']
    omega
  · by_cases h0 : m.length = 0
    · have : m = [] := List.eq_nil_of_length_eq_zero h0
      subst this
      rw [run_copy_none w _ _ _ _ _ _ _ _ _ _ Try.underlying22 hsz (by simp)]
      rfl
    · obtain ⟨bb, oo, rfl, hlt, hc⟩ := hur (by omega)
      have hth := hr.there (k := a) (m := m.length) (by omega)
      rw [run_copy_cells w _ _ _ _ g (off + a) _ _ ⟨bb, oo, none⟩ _ _ (m.map u8) Try.underlying22 hsz (by rw [List.length_map]; exact (Nat.min_eq_left (by omega)).symm)
        (fun j v hj => by
          have hj' : j < m.length := by have := (List.getElem?_eq_some_iff.1 hj).1; simpa using this
          rw [add_lit', hc j hj', nth_get hj']
          simp [hj'] at hj
          rw [hj])
        (fun j hj => (hth j (by simpa using hj)).1) (fun j hj => (hth j (by simpa using hj)).2) (u8_one m)]
      simp
  · exact (setCells_mods _ _ _ _).mono (fun k hk => .inl (by rw [hk]; rfl))
set_option maxHeartbeats 4000000 in
theorem walk (at_ : Int) {v0 v1 v2 : Value} {first mine its : List Int} (w : World) (h0 : BytesAt w v0 first) (h1 : BytesAt w v1 mine) (h2 : BytesAt w v2 its) :
    Calls Try.prog 3 #[.agg #[v0, v1, v2, i64 at_]] w (Ok w) := by
  have HF := Lib.hid h0
  have HM := Lib.hid h1
  have HI := Lib.hid h2
  obtain ⟨a0, c0, rfl, _, _, _⟩ := h0
  obtain ⟨a1, c1, rfl, _, _, _⟩ := h1
  obtain ⟨a2, c2, rfl, _, _, _⟩ := h2
  by_cases q1 : 256 < first.length
  · have d1 : decide ((256 : Int) < (first.length : Int)) = true := by simp; omega
    go_enter Try.func3, Try.ntmps3
    go_wp2
    go_quiet (fail)
    go_wp2_with (first
      | (go_at_call 12; refine (vs_new (w0 := w) (((Mods.refl _ w).alloc _).drewN _) (n := 64) (o := 8) (by decide) (by decide) (by decide) (by decide)).mono ?_; rintro e w1 ⟨s, f1, rfl, h1, _, _⟩; have H1 := Lib.hid h1; clear h1)
      | (go_at_call 13; refine (awake_calls H1.out.mods).mono ?_; rintro e w9 ⟨rfl, m9⟩; have M9 := Lib.hid m9; clear m9))
    go_ret
    exact ⟨rfl, M9.out⟩
  have d1 : decide ((256 : Int) < (first.length : Int)) = false := by simp; omega
  by_cases q2 : 100 < mine.length
  · have d2 : decide ((100 : Int) < (mine.length : Int)) = true := by simp; omega
    go_enter Try.func3, Try.ntmps3
    go_wp2
    go_quiet (fail)
    go_wp2_with (first
      | (go_at_call 12; refine (vs_new (w0 := w) (((Mods.refl _ w).alloc _).drewN _) (n := 64) (o := 8) (by decide) (by decide) (by decide) (by decide)).mono ?_; rintro e w1 ⟨s, f1, rfl, h1, _, _⟩; have H1 := Lib.hid h1; clear h1)
      | (go_at_call 13; refine (awake_calls H1.out.mods).mono ?_; rintro e w9 ⟨rfl, m9⟩; have M9 := Lib.hid m9; clear m9))
    go_ret
    exact ⟨rfl, M9.out⟩
  have d2 : decide ((100 : Int) < (mine.length : Int)) = false := by simp; omega
  by_cases q3 : 100 < its.length
  · have d3 : decide ((100 : Int) < (its.length : Int)) = true := by simp; omega
    go_enter Try.func3, Try.ntmps3
    go_wp2
    go_quiet (fail)
    go_wp2_with (first
      | (go_at_call 12; refine (vs_new (w0 := w) (((Mods.refl _ w).alloc _).drewN _) (n := 64) (o := 8) (by decide) (by decide) (by decide) (by decide)).mono ?_; rintro e w1 ⟨s, f1, rfl, h1, _, _⟩; have H1 := Lib.hid h1; clear h1)
      | (go_at_call 13; refine (awake_calls H1.out.mods).mono ?_; rintro e w9 ⟨rfl, m9⟩; have M9 := Lib.hid m9; clear m9))
    go_ret
    exact ⟨rfl, M9.out⟩
  have d3 : decide ((100 : Int) < (its.length : Int)) = false := by simp; omega
  by_cases q4 : at_ < 0
  · have d4 : decide (at_ < 0) = true := by simpa using q4
    go_enter Try.func3, Try.ntmps3
    go_wp2
    go_quiet (fail)
    go_wp2_with (first
      | (go_at_call 12; refine (vs_new (w0 := w) (((Mods.refl _ w).alloc _).drewN _) (n := 64) (o := 8) (by decide) (by decide) (by decide) (by decide)).mono ?_; rintro e w1 ⟨s, f1, rfl, h1, _, _⟩; have H1 := Lib.hid h1; clear h1)
      | (go_at_call 13; refine (awake_calls H1.out.mods).mono ?_; rintro e w9 ⟨rfl, m9⟩; have M9 := Lib.hid m9; clear m9))
    go_ret
    exact ⟨rfl, M9.out⟩
  have d4 : decide (at_ < 0) = false := by simpa using q4
  by_cases q5 : 150 < at_
  · have d5 : decide (150 < at_) = true := by simpa using q5
    go_enter Try.func3, Try.ntmps3
    go_wp2
    go_quiet (fail)
    go_wp2_with (first
      | (go_at_call 12; refine (vs_new (w0 := w) (((Mods.refl _ w).alloc _).drewN _) (n := 64) (o := 8) (by decide) (by decide) (by decide) (by decide)).mono ?_; rintro e w1 ⟨s, f1, rfl, h1, _, _⟩; have H1 := Lib.hid h1; clear h1)
      | (go_at_call 13; refine (awake_calls H1.out.mods).mono ?_; rintro e w9 ⟨rfl, m9⟩; have M9 := Lib.hid m9; clear m9))
    go_ret
    exact ⟨rfl, M9.out⟩
  have d5 : decide (150 < at_) = false := by simpa using q5
  obtain ⟨a, rfl⟩ : ∃ a : Nat, at_ = a := ⟨at_.toNat, by omega⟩
  obtain ⟨all, S1, S2, S3, S4, S5, S6, S7, hA⟩ := apart_pure g0 first mine its a (by omega) (by omega) (by omega) (by omega)
  have A := Lib.hid hA
  clear hA
  go_enter Try.func3, Try.ntmps3
  go_wp2
  go_quiet (fail)
  go_wp2_with (first
    | (go_at_call 12; refine (vs_new (w0 := w) (((Mods.refl _ w).alloc _).drewN _) (n := 64) (o := 8) (by decide) (by decide) (by decide) (by decide)).mono ?_; rintro e w1 ⟨s, f1, rfl, h1, _, _⟩; have H1 := Lib.hid (show Vs w w1 s s0 f1 from h1); clear h1)
    | (go_at_call 14; refine (H1.out.create g0 (by decide) 256).mono ?_; rw [show s0.create 256 = _ from A.out.c1]; rintro e w2 ⟨rfl, f2, h2, _, _⟩; have H2 := Lib.hid h2; clear h2 H1)
    | (go_at_call 15; refine (H2.out.write A.out.g1 1 0 (Beside.arg H2.out HF.out)).mono ?_; rw [A.out.c2]; rintro e w3 ⟨rfl, f3, h3, _, _⟩; have H3 := Lib.hid h3; clear h3 H2)
    | (go_at_call 16; refine (H3.out.read A.out.g2 1 0 256).mono ?_; rw [A.out.r2]; rintro e w4 ⟨v4, rfl, n4⟩; replace n4 : NewBytes _ all v4 w4 := n4; have H4 := Lib.hid (H3.out.quiet n4.2.2); have HA4 := Lib.hid (Beside.new H3.out n4 (by have := A.out.len; unfold maxLen; omega)); clear n4 H3)
    | (go_at_call 17; refine (H4.out.snapshot A.out.g2 A.out.l2 1 0 256).mono ?_; rw [A.out.c3]; rintro e w5 ⟨rfl, f5, h5, m5, n5⟩; have H5 := Lib.hid h5; have HA5 := Lib.hid (HA4.out.next m5 n5); clear h5 m5 n5 H4 HA4)
    | (go_at_call 18; refine (H5.out.slice A.out.g3 A.out.l3 1 64 192).mono ?_; rw [A.out.c4]; rintro e w6 ⟨rfl, f6, h6, m6, n6⟩; have H6 := Lib.hid h6; have HA6 := Lib.hid (HA5.out.next m6 n6); clear h6 m6 n6 H5 HA5)
    | (go_at_call 15; refine (H6.out.write A.out.g4 1 a (Beside.arg H6.out HM.out)).mono ?_; rw [A.out.c5]; rintro e w7 ⟨rfl, f7, h7, m7, n7⟩; have H7 := Lib.hid h7; have HA7 := Lib.hid (HA6.out.next m7 n7); clear h7 m7 n7 H6 HA6)
    | (go_at_call 16; refine (H7.out.read A.out.g5 2 0 256).mono ?_; rw [A.out.r5]; rintro e w8 ⟨v8, rfl, n8⟩; replace n8 : NewBytes _ all v8 w8 := n8; have H8 := Lib.hid (H7.out.quiet n8.2.2); have HA8 := Lib.hid (HA7.out.quiet n8.2.2); have HB8 := Lib.hid (Beside.new H7.out n8 (by have := A.out.len; unfold maxLen; omega)); clear n8 H7 HA7)
    | (go_at_call 19; refine (same_calls HB8.out.1 HA8.out.1).mono ?_; rintro e w' ⟨rfl, rfl⟩; clear HB8)
    | (go_at_call 15; refine (H8.out.write A.out.g5 2 a (Beside.arg H8.out HI.out)).mono ?_; rw [A.out.c6]; rintro e w9 ⟨rfl, f9, h9, m9, n9⟩; have H9 := Lib.hid h9; have HA9 := Lib.hid (HA8.out.next m9 n9); clear h9 m9 n9 H8 HA8)
    | (go_at_call 20; refine (copyb_calls HA9.out.1 (by have := A.out.len; omega)).mono ?_; rintro e w10 ⟨v10, rfl, n10⟩; obtain ⟨vc, w11, hcut, hcopy, hb11, hr11, hm11⟩ := copy_into (a := a) n10.1 ((HM.out.mods H9.out.mods (fun _ _ h => h)).mods n10.2.2 (fun _ _ h => h)) (by have := A.out.len; omega) (by have := A.out.len; omega)
       have H11 := Lib.hid ((H9.out.quiet n10.2.2).step hm11 (fun k hk => ⟨fun hf => by have := n10.2.1 k hk; have := H9.out.lt k hf; omega, by have := n10.2.1 k hk; have := H9.out.mods.size; omega⟩))
       have HA11 := Lib.hid (show Beside w11 f9 v4 all from ⟨(HA9.out.quiet n10.2.2).1.mods hm11 (fun k hk hf => by have := n10.2.1 k hf; have := HA9.out.1.live_lt hk; omega), HA9.out.2⟩)
       have HW11 := Lib.hid (show Beside w11 f9 v10 (splice all a mine) from ⟨hb11, fun k hk hf => by have := n10.2.1 k hk.2; have := H9.out.lt k hf; omega⟩)
       clear n10 hb11 hr11 hm11 H9 HA9)
    | (go_at_call 16; refine (H11.out.read A.out.g6 1 0 256).mono ?_; rw [A.out.r61]; rintro e w12 ⟨v12, rfl, n12⟩; replace n12 : NewBytes _ (splice all a mine) v12 w12 := n12; have H12 := Lib.hid (H11.out.quiet n12.2.2); have HA12 := Lib.hid (HA11.out.quiet n12.2.2); have HW12 := Lib.hid (HW11.out.quiet n12.2.2); have HB12 := Lib.hid (Beside.new H11.out n12 (by have := A.out.len; have := splice_len (l := all) (m := mine) (a := a) (by omega); unfold maxLen; omega)); clear n12 H11 HA11 HW11)
    | (go_at_call 16; refine (H12.out.read A.out.g6 3 0 192).mono ?_; rw [A.out.r63]; rintro e w13 ⟨v13, rfl, n13⟩; replace n13 : NewBytes _ ((splice all a mine).drop 64) v13 w13 := n13; have H13 := Lib.hid (H12.out.quiet n13.2.2); have HA13 := Lib.hid (HA12.out.quiet n13.2.2); have HW13 := Lib.hid (HW12.out.quiet n13.2.2); have HB13 := Lib.hid (HB12.out.quiet n13.2.2); have HC13 := Lib.hid (Beside.new H12.out n13 (by have := A.out.len; have := splice_len (l := all) (m := mine) (a := a) (by omega); unfold maxLen; rw [List.length_drop]; omega))
       obtain ⟨vt, hct, hbt, _⟩ := HW13.out.1.tail (k := 64) (by have := A.out.len; have := splice_len (l := all) (m := mine) (a := a) (by omega); omega)
       have HT13 := Lib.hid hbt
       replace hct : ∀ W, (Instr.slice 22 v10 (some (.int .i64 64)) none none).run Try.prog W = .ok vt W := hct
       clear n13 H12 HA12 HW12 HB12 hbt)
    | (go_at_call 19; refine (same_calls HB13.out.1 HW13.out.1).mono ?_; rintro e w' ⟨rfl, rfl⟩; clear HB13 HW13)
    | (go_at_call 19; refine (same_calls HC13.out.1 HT13.out).mono ?_; rintro e w' ⟨rfl, rfl⟩; clear HC13 HT13 hct)
    | (go_at_call 20; refine (copyb_calls HA13.out.1 (by have := A.out.len; omega)).mono ?_; rintro e w14 ⟨v14, rfl, n14⟩; obtain ⟨vd, w15, hcut2, hcopy2, hb15, hr15, hm15⟩ := copy_into (a := a) n14.1 ((HI.out.mods H13.out.mods (fun _ _ h => h)).mods n14.2.2 (fun _ _ h => h)) (by have := A.out.len; omega) (by have := A.out.len; omega)
       have H15 := Lib.hid ((H13.out.quiet n14.2.2).step hm15 (fun k hk => ⟨fun hf => by have := n14.2.1 k hk; have := H13.out.lt k hf; omega, by have := n14.2.1 k hk; have := H13.out.mods.size; omega⟩))
       have HW15 := Lib.hid (show Beside w15 f9 v14 (splice all a its) from ⟨hb15, fun k hk hf => by have := n14.2.1 k hk.2; have := H13.out.lt k hf; omega⟩)
       clear n14 hb15 hr15 hm15 H13 HA13)
    | (go_at_call 16; refine (H15.out.read A.out.g6 2 0 256).mono ?_; rw [A.out.r62]; rintro e w16 ⟨v16, rfl, n16⟩; replace n16 : NewBytes _ (splice all a its) v16 w16 := n16; have H16 := Lib.hid (H15.out.quiet n16.2.2); have HW16 := Lib.hid (HW15.out.quiet n16.2.2); have HB16 := Lib.hid (Beside.new H15.out n16 (by have := A.out.len; have := splice_len (l := all) (m := its) (a := a) (by omega); unfold maxLen; omega)); clear n16 H15 HW15)
    | (go_at_call 19; refine (same_calls HB16.out.1 HW16.out.1).mono ?_; rintro e w' ⟨rfl, rfl⟩; clear HB16 HW16)
    | (go_at_call 15; refine (H16.out.write A.out.g6 3 3 (Beside.arg H16.out HI.out)).mono ?_; rw [A.out.c7]; rintro e w17 ⟨rfl, f17, h17, m17, n17⟩; have H17 := Lib.hid h17; clear h17 m17 n17 H16)
    | (go_at_call 16; refine (H17.out.read A.out.g7 1 67 its.length).mono ?_; rw [A.out.r7]; rintro e w18 ⟨v18, rfl, n18⟩; replace n18 : NewBytes _ its v18 w18 := n18; have H18 := Lib.hid (H17.out.quiet n18.2.2); have HI18 := Lib.hid (Beside.arg H18.out HI.out); have HB18 := Lib.hid (Beside.new H17.out n18 (by unfold maxLen; omega)); clear n18 H17)
    | (go_at_call 19; refine (same_calls HB18.out.1 HI18.out.1).mono ?_; rintro e w' ⟨rfl, rfl⟩; clear HB18 HI18)
    | (go_at_call 13; refine (awake_calls H18.out.mods).mono ?_; rintro e w19 ⟨rfl, m19⟩; have M19 := Lib.hid m19; clear m19))
  go_ret
  exact ⟨rfl, M19.out⟩

theorem lifted (os : Os) (started : os.Started) (H : Type) (enc : TypeId × Value → H) :
    ReturnsInHanded {} Try.checked os 3 .any (Rows.vmoApartSpec.pre6 enc Try.prog Try.f3 Rows.vmoApartRow.domain false) (Rows.vmoApartSpec.post enc Try.prog Try.f3 false true false false) := by
  refine returnsInHanded_of_change (C := Try.checked) law_own started (by kernel_rfl) Try.func3
    (ChangeSpec.witness6 (enc := enc) (C := Try.checked) false ⟨#[], #[.agg #[.slice none 0 0, .slice none 0 0, .slice none 0 0, .int .i64 0]], []⟩ 8 (by kernel_rfl) (by kernel_rfl) (by kernel_rfl) (by kernel_rfl)) ?_
  intro W base args ds gs before hval0 hW _ _
  have hval : ∀ (j : Nat) t v, Try.f3.params[j]? = some t → args[j]? = some v → Value.okWide Try.prog W .any base t v := hval0
  have hW' := hW
  obtain ⟨p, q, hA0, hV, rfl, _, _⟩ := hW
  have hA : DataW.TrodAll enc Try.prog W 0 (fun _ => true) true Try.f3.params.toList args.toList ds p := hA0
  rw [Try.params3] at hA hval
  obtain ⟨v0, d0, rfl, rfl, h0⟩ := trodAll_one hA
  obtain ⟨rfl, rfl⟩ := trodVars_none hV
  obtain ⟨u0, u1, u2, u3, y0, y1, y2, y3, n, rfl, rfl, rfl, r0, r1, r2, r3⟩ := Joins.open_agg4 Try.underlying24 (by kernel_rfl) (by kernel_rfl) (hval 0 24 v0 rfl rfl) h0
  obtain ⟨l0, b0, _⟩ := bytes_of_trod r0
  obtain ⟨l1, b1, _⟩ := bytes_of_trod r1
  obtain ⟨l2, b2, _⟩ := bytes_of_trod r2
  obtain ⟨z, hz, _, _⟩ := DataW.trod_int Try.underlying3 r3
  clear hA0 hval0
  have hz' : u3 = .int .i64 z := by simpa using hz
  subst hz'
  refine (walk z W b0 b1 b2).mono fun e W' ⟨he, hg⟩ => ?_
  subst he
  exact ⟨_, rfl, law_post (by kernel_rfl) (by kernel_rfl) rfl hW' rfl (hg.below (Nat.le_refl _) (fun _ h => h.elim))⟩

theorem proved : Rows.VmoApartSaid :=
  OpenClaim.holds_of_wide 3 Try.f3 rfl rfl rfl rfl rfl rfl rfl ⟨rfl, rfl, rfl, rfl, rfl⟩ rfl rfl rfl rfl rfl (by kernel_rfl) Try.func3 (by kernel_rfl)
    (of_decide_eq_true (by kernel_rfl)) (by unfold Func.isWrapper; first | (rw [if_pos (by decide +kernel)]; kernel_rfl) | (rw [if_neg (by decide +kernel)]; exact ⟨rfl, rfl⟩))
    (fun os started H enc _ => lifted os started H enc)
#print axioms proved
end Go.Proofs.Ytkifgoadbnpofaa.vmoApart
