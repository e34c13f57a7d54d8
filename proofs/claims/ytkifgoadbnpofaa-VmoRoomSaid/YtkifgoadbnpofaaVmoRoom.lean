/- The statement VmoRoomSaid: for every three numbers the law returns true and the arguments read as they did. Conditions: none. -/
import Derived.Test.YtkifgoadbnpofaaLaw
import Derived.Test.YtkifgoadbnpofaaVmoN
import Derived.Test.YtkifgoadbnpofaaVmoRoomPure
namespace Go.Proofs.Ytkifgoadbnpofaa
open Go Go.RowKit
theorem Vs.op {w0 w : World} {s : Nat} {S : Vset} {fp : Nat → Prop} (h : Vs w0 w s S fp) (G : Good S) (id a n : Int) {op : Int} (hop : op = 1 ∨ op = 2) : Calls Try.prog 22 #[ptr s, i64 id, i64 op, i64 a, i64 n] w (VsOne w0 w s fp (S.op id op a n)) := by
  obtain ⟨Y, pv, pf, rfl, R, hf⟩ := h.rep
  exact (vop_calls R G a n hop).mono (by rintro e w' ⟨rfl, u⟩; exact ⟨rfl, h.upd rfl hf u.upd⟩)
theorem vnew_bad {w : World} {n o : Int} (h : n < 0 ∨ 65536 < n) : Calls Try.prog 12 #[i64 n, i64 o] w fun e w' => e = .returned (.pointer none) ∧ w' = w := by
  have HN := Lib.hid (pnew_bad (w := w) h)
  clear h
  go_enter Try.func12, Try.ntmps12
  go_wp2_with (go_at_call 37; refine HN.out.mono ?_; rintro e w1 ⟨rfl, rfl⟩)
  go_ret
  exact ⟨rfl, rfl⟩
end Go.Proofs.Ytkifgoadbnpofaa
namespace Go.Proofs.Ytkifgoadbnpofaa.vmoRoom
open Go Go.RowKit Go.ChangeShapes Go.WideShapes Go.ChangeAt
set_option maxRecDepth 100000

def Ok (w : World) (e : Ending) (w' : World) : Prop := e = .returned (.bool true) ∧ Mods (fun _ => False) w w'
set_option maxHeartbeats 4000000 in
theorem walk (F first more : Int) (w : World) : Calls Try.prog 5 #[i64 F, i64 first, i64 more] w (Ok w) := by
  by_cases q0 : F < 0 ∨ 65536 < F
  · have HN := Lib.hid (vnew_bad (w := w) (o := 3) q0)
    have HW := Lib.hid (awake_calls (Mods.refl (fun _ => False) w))
    by_cases q1 : F < 0
    · have d1 : decide (F < 0) = true := by simpa using q1
      clear q0
      go_enter Try.func5, Try.ntmps5
      go_wp2_with (first
        | (go_at_call 12; refine HN.out.mono ?_; rintro e w1 ⟨rfl, rfl⟩)
        | (go_at_call 13; refine HW.out.mono ?_; rintro e w9 ⟨rfl, m9⟩; have M9 := Lib.hid m9; clear m9))
      go_ret
      exact ⟨rfl, M9.out⟩
    · have d1 : decide (F < 0) = false := by simpa using q1
      have d2 : decide (65536 < F) = true := by simp; omega
      clear q0
      go_enter Try.func5, Try.ntmps5
      go_wp2_with (first
        | (go_at_call 12; refine HN.out.mono ?_; rintro e w1 ⟨rfl, rfl⟩)
        | (go_at_call 13; refine HW.out.mono ?_; rintro e w9 ⟨rfl, m9⟩; have M9 := Lib.hid m9; clear m9))
      go_ret
      exact ⟨rfl, M9.out⟩
  have HN := Lib.hid (vs_new (Mods.refl (fun _ => False) w) (n := F) (o := 3) (by omega) (by omega) (by decide) (by decide))
  by_cases q1 : 30 < F
  · have d1 : decide (30 < F) = true := by simpa using q1
    clear q0
    go_enter Try.func5, Try.ntmps5
    go_wp2_with (first
      | (go_at_call 12; refine HN.out.mono ?_; rintro e w1 ⟨s, f1, rfl, h1, _, _⟩; have H1 := Lib.hid h1; clear h1)
      | (go_at_call 13; refine (awake_calls H1.out.mods).mono ?_; rintro e w9 ⟨rfl, m9⟩; have M9 := Lib.hid m9; clear m9))
    go_ret
    exact ⟨rfl, M9.out⟩
  have d1 : decide (30 < F) = false := by simpa using q1
  by_cases q2 : first < 0
  · have d2 : decide (first < 0) = true := by simpa using q2
    clear q0
    go_enter Try.func5, Try.ntmps5
    go_wp2_with (first
      | (go_at_call 12; refine HN.out.mono ?_; rintro e w1 ⟨s, f1, rfl, h1, _, _⟩; have H1 := Lib.hid h1; clear h1)
      | (go_at_call 13; refine (awake_calls H1.out.mods).mono ?_; rintro e w9 ⟨rfl, m9⟩; have M9 := Lib.hid m9; clear m9))
    go_ret
    exact ⟨rfl, M9.out⟩
  have d2 : decide (first < 0) = false := by simpa using q2
  by_cases q3 : 40 < first
  · have d3 : decide (40 < first) = true := by simpa using q3
    clear q0
    go_enter Try.func5, Try.ntmps5
    go_wp2_with (first
      | (go_at_call 12; refine HN.out.mono ?_; rintro e w1 ⟨s, f1, rfl, h1, _, _⟩; have H1 := Lib.hid h1; clear h1)
      | (go_at_call 13; refine (awake_calls H1.out.mods).mono ?_; rintro e w9 ⟨rfl, m9⟩; have M9 := Lib.hid m9; clear m9))
    go_ret
    exact ⟨rfl, M9.out⟩
  have d3 : decide (40 < first) = false := by simpa using q3
  by_cases q4 : more < 0
  · have d4 : decide (more < 0) = true := by simpa using q4
    clear q0
    go_enter Try.func5, Try.ntmps5
    go_wp2_with (first
      | (go_at_call 12; refine HN.out.mono ?_; rintro e w1 ⟨s, f1, rfl, h1, _, _⟩; have H1 := Lib.hid h1; clear h1)
      | (go_at_call 13; refine (awake_calls H1.out.mods).mono ?_; rintro e w9 ⟨rfl, m9⟩; have M9 := Lib.hid m9; clear m9))
    go_ret
    exact ⟨rfl, M9.out⟩
  have d4 : decide (more < 0) = false := by simpa using q4
  by_cases q5 : 40 < more
  · have d5 : decide (40 < more) = true := by simpa using q5
    clear q0
    go_enter Try.func5, Try.ntmps5
    go_wp2_with (first
      | (go_at_call 12; refine HN.out.mono ?_; rintro e w1 ⟨s, f1, rfl, h1, _, _⟩; have H1 := Lib.hid h1; clear h1)
      | (go_at_call 13; refine (awake_calls H1.out.mods).mono ?_; rintro e w9 ⟨rfl, m9⟩; have M9 := Lib.hid m9; clear m9))
    go_ret
    exact ⟨rfl, M9.out⟩
  have d5 : decide (40 < more) = false := by simpa using q5
  have hF0 : 0 ≤ F := by omega
  have hF1 : F ≤ 30 := by omega
  have G0 := Lib.hid (good_new (n := F) (o := 3) hF0 (by omega) (by decide) (by decide))
  obtain ⟨S1, S2, S3, S4, S5, u3, u4, hA⟩ := room_pure hF0 hF1 (show 0 ≤ first by omega) (show first ≤ 40 by omega) (show 0 ≤ more by omega) (show more ≤ 40 by omega) G0.out
  have A := Lib.hid hA
  have c3 := hA.c3
  have c4 := hA.c4
  have v3 := hA.v3
  have v4 := hA.v4
  have r4 := hA.r4
  have r5 := hA.r5
  obtain ⟨k1, k2, k4, k5, hi, his⟩ := hA.i5
  have I5 := Lib.hid (And.intro hi his)
  clear hA hi his q0
  by_cases p1 : first ≤ F
  · rw [if_pos p1] at c3 v3
    have e1 : decide (first ≤ F) = true := by simpa using p1
    by_cases p2 : more ≤ F - u3
    · rw [if_pos p2] at c4 v4
      rw [v4, v3] at r4
      rw [v4, v3] at r5
      rw [show F - (first + more - first) = F - (first + more) + first by omega] at r5
      rw [v3] at p2
      have e2 : decide (more ≤ F - first) = true := by simpa using p2
      have C3 := Lib.hid c3
      have C4 := Lib.hid c4
      have R4 := Lib.hid r4
      have R5 := Lib.hid r5
      clear c3 c4 r4 r5 v3 v4
      go_enter Try.func5, Try.ntmps5
      go_wp2_with (first
        | (go_at_call 12; refine HN.out.mono ?_; rintro e w1 ⟨s, f1, rfl, h1, _, _⟩; have H1 := Lib.hid h1; clear h1)
        | (go_at_call 14; refine (H1.out.create G0.out (by show (0 : Int) < 4611686018427387904; decide) 4096).mono ?_; rw [A.out.c1]; rintro e w2 ⟨rfl, f2, h2, _, _⟩; have H2 := Lib.hid h2; clear h2 H1)
        | (go_at_call 14; refine (H2.out.create A.out.g1 A.out.l1 4096).mono ?_; rw [A.out.c2]; rintro e w3 ⟨rfl, f3, h3, _, _⟩; have H3 := Lib.hid h3; clear h3 H2)
        | (go_at_call 22; refine (H3.out.op A.out.g2 1 0 (64 * first) (.inl rfl)).mono ?_; rw [C3.out]; rintro e w4 ⟨rfl, f4, h4, _, _⟩; have H4 := Lib.hid h4; clear h4 H3)
        | (go_at_call 22; refine (H4.out.op A.out.g3 2 0 (64 * more) (.inl rfl)).mono ?_; rw [C4.out]; rintro e w5 ⟨rfl, f5, h5, _, _⟩; have H5 := Lib.hid h5; clear h5 H4)
        | (go_at_call 23; refine (H5.out.room A.out.g4).mono ?_; rw [R4.out]; rintro e w6 ⟨rfl, n6, rfl⟩; have H6 := Lib.hid (H5.out.quiet ((Mods.refl _ _).drewN n6)); clear H5)
        | (go_at_call 22; refine (H6.out.op A.out.g4 1 0 (64 * first) (.inr rfl)).mono ?_; rw [A.out.c5]; rintro e w7 ⟨rfl, f7, h7, _, _⟩; have H7 := Lib.hid h7; clear h7 H6)
        | (go_at_call 21; refine (H7.out.info 1).mono ?_; rw [I5.out.1, I5.out.2]; rintro e w8 ⟨rfl, m8⟩; have H8 := Lib.hid ((H7.out.quiet m8).alloc (.cells #[i64 4096, i64 k1, i64 k2, i64 0, .bool k4, .bool k5] 39)); clear m8 H7)
        | (go_at_call 23; refine (H8.out.room A.out.g5).mono ?_; rw [R5.out]; rintro e w9 ⟨rfl, n9, rfl⟩; have H9 := Lib.hid (H8.out.quiet ((Mods.refl _ _).drewN n9)); clear H8)
        | (go_at_call 13; refine (awake_calls (by first | exact H9.out.mods | exact H8.out.mods)).mono ?_; rintro e w10 ⟨rfl, m10⟩; have M10 := Lib.hid m10; clear m10))
      go_ret
      exact ⟨rfl, M10.out⟩
    · rw [if_neg p2] at c4 v4
      rw [v4, v3] at r4
      rw [v4, v3] at r5
      rw [show F - (first - first) = F - first + first by omega] at r5
      rw [v3] at p2
      have e2 : decide (more ≤ F - first) = false := by simpa using p2
      have C3 := Lib.hid c3
      have C4 := Lib.hid c4
      have R4 := Lib.hid r4
      have R5 := Lib.hid r5
      clear c3 c4 r4 r5 v3 v4
      go_enter Try.func5, Try.ntmps5
      go_wp2_with (first
        | (go_at_call 12; refine HN.out.mono ?_; rintro e w1 ⟨s, f1, rfl, h1, _, _⟩; have H1 := Lib.hid h1; clear h1)
        | (go_at_call 14; refine (H1.out.create G0.out (by show (0 : Int) < 4611686018427387904; decide) 4096).mono ?_; rw [A.out.c1]; rintro e w2 ⟨rfl, f2, h2, _, _⟩; have H2 := Lib.hid h2; clear h2 H1)
        | (go_at_call 14; refine (H2.out.create A.out.g1 A.out.l1 4096).mono ?_; rw [A.out.c2]; rintro e w3 ⟨rfl, f3, h3, _, _⟩; have H3 := Lib.hid h3; clear h3 H2)
        | (go_at_call 22; refine (H3.out.op A.out.g2 1 0 (64 * first) (.inl rfl)).mono ?_; rw [C3.out]; rintro e w4 ⟨rfl, f4, h4, _, _⟩; have H4 := Lib.hid h4; clear h4 H3)
        | (go_at_call 22; refine (H4.out.op A.out.g3 2 0 (64 * more) (.inl rfl)).mono ?_; rw [C4.out]; rintro e w5 ⟨rfl, f5, h5, _, _⟩; have H5 := Lib.hid h5; clear h5 H4)
        | (go_at_call 23; refine (H5.out.room A.out.g4).mono ?_; rw [R4.out]; rintro e w6 ⟨rfl, n6, rfl⟩; have H6 := Lib.hid (H5.out.quiet ((Mods.refl _ _).drewN n6)); clear H5)
        | (go_at_call 22; refine (H6.out.op A.out.g4 1 0 (64 * first) (.inr rfl)).mono ?_; rw [A.out.c5]; rintro e w7 ⟨rfl, f7, h7, _, _⟩; have H7 := Lib.hid h7; clear h7 H6)
        | (go_at_call 21; refine (H7.out.info 1).mono ?_; rw [I5.out.1, I5.out.2]; rintro e w8 ⟨rfl, m8⟩; have H8 := Lib.hid ((H7.out.quiet m8).alloc (.cells #[i64 4096, i64 k1, i64 k2, i64 0, .bool k4, .bool k5] 39)); clear m8 H7)
        | (go_at_call 23; refine (H8.out.room A.out.g5).mono ?_; rw [R5.out]; rintro e w9 ⟨rfl, n9, rfl⟩; have H9 := Lib.hid (H8.out.quiet ((Mods.refl _ _).drewN n9)); clear H8)
        | (go_at_call 13; refine (awake_calls (by first | exact H9.out.mods | exact H8.out.mods)).mono ?_; rintro e w10 ⟨rfl, m10⟩; have M10 := Lib.hid m10; clear m10))
      go_ret
      exact ⟨rfl, M10.out⟩
  · rw [if_neg p1] at c3 v3
    have e1 : decide (first ≤ F) = false := by simpa using p1
    by_cases p2 : more ≤ F - u3
    · rw [if_pos p2] at c4 v4
      rw [v4, v3] at r4
      rw [show F - (0 + more) = F - more by omega] at r4
      rw [v3] at p2
      have e2 : decide (more ≤ F) = true := by simp; omega
      have C3 := Lib.hid c3
      have C4 := Lib.hid c4
      have R4 := Lib.hid r4
      clear c3 c4 r4 r5 v3 v4 p2
      go_enter Try.func5, Try.ntmps5
      go_wp2_with (first
        | (go_at_call 12; refine HN.out.mono ?_; rintro e w1 ⟨s, f1, rfl, h1, _, _⟩; have H1 := Lib.hid h1; clear h1)
        | (go_at_call 14; refine (H1.out.create G0.out (by show (0 : Int) < 4611686018427387904; decide) 4096).mono ?_; rw [A.out.c1]; rintro e w2 ⟨rfl, f2, h2, _, _⟩; have H2 := Lib.hid h2; clear h2 H1)
        | (go_at_call 14; refine (H2.out.create A.out.g1 A.out.l1 4096).mono ?_; rw [A.out.c2]; rintro e w3 ⟨rfl, f3, h3, _, _⟩; have H3 := Lib.hid h3; clear h3 H2)
        | (go_at_call 22; refine (H3.out.op A.out.g2 1 0 (64 * first) (.inl rfl)).mono ?_; rw [C3.out]; rintro e w4 ⟨rfl, f4, h4, _, _⟩; have H4 := Lib.hid h4; clear h4 H3)
        | (go_at_call 22; refine (H4.out.op A.out.g3 2 0 (64 * more) (.inl rfl)).mono ?_; rw [C4.out]; rintro e w5 ⟨rfl, f5, h5, _, _⟩; have H5 := Lib.hid h5; clear h5 H4)
        | (go_at_call 23; refine (H5.out.room A.out.g4).mono ?_; rw [R4.out]; rintro e w6 ⟨rfl, n6, rfl⟩; have H6 := Lib.hid (H5.out.quiet ((Mods.refl _ _).drewN n6)); clear H5)
        | (go_at_call 22; refine (H6.out.op A.out.g4 1 0 (64 * first) (.inr rfl)).mono ?_; rw [A.out.c5]; rintro e w7 ⟨rfl, f7, h7, _, _⟩; have H7 := Lib.hid h7; clear h7 H6)
        | (go_at_call 21; refine (H7.out.info 1).mono ?_; rw [I5.out.1, I5.out.2]; rintro e w8 ⟨rfl, m8⟩; have H8 := Lib.hid ((H7.out.quiet m8).alloc (.cells #[i64 4096, i64 k1, i64 k2, i64 0, .bool k4, .bool k5] 39)); clear m8 H7)
        | (go_at_call 23; refine (H8.out.room A.out.g5).mono ?_; rw [R5.out]; rintro e w9 ⟨rfl, n9, rfl⟩; have H9 := Lib.hid (H8.out.quiet ((Mods.refl _ _).drewN n9)); clear H8)
        | (go_at_call 13; refine (awake_calls (by first | exact H9.out.mods | exact H8.out.mods)).mono ?_; rintro e w10 ⟨rfl, m10⟩; have M10 := Lib.hid m10; clear m10))
      go_ret
      exact ⟨rfl, M10.out⟩
    · rw [if_neg p2] at c4 v4
      rw [v4, v3] at r4
      rw [show F - (0 : Int) = F by omega] at r4
      rw [v3] at p2
      have e2 : decide (more ≤ F) = false := by simp; omega
      have C3 := Lib.hid c3
      have C4 := Lib.hid c4
      have R4 := Lib.hid r4
      clear c3 c4 r4 r5 v3 v4 p2
      go_enter Try.func5, Try.ntmps5
      go_wp2_with (first
        | (go_at_call 12; refine HN.out.mono ?_; rintro e w1 ⟨s, f1, rfl, h1, _, _⟩; have H1 := Lib.hid h1; clear h1)
        | (go_at_call 14; refine (H1.out.create G0.out (by show (0 : Int) < 4611686018427387904; decide) 4096).mono ?_; rw [A.out.c1]; rintro e w2 ⟨rfl, f2, h2, _, _⟩; have H2 := Lib.hid h2; clear h2 H1)
        | (go_at_call 14; refine (H2.out.create A.out.g1 A.out.l1 4096).mono ?_; rw [A.out.c2]; rintro e w3 ⟨rfl, f3, h3, _, _⟩; have H3 := Lib.hid h3; clear h3 H2)
        | (go_at_call 22; refine (H3.out.op A.out.g2 1 0 (64 * first) (.inl rfl)).mono ?_; rw [C3.out]; rintro e w4 ⟨rfl, f4, h4, _, _⟩; have H4 := Lib.hid h4; clear h4 H3)
        | (go_at_call 22; refine (H4.out.op A.out.g3 2 0 (64 * more) (.inl rfl)).mono ?_; rw [C4.out]; rintro e w5 ⟨rfl, f5, h5, _, _⟩; have H5 := Lib.hid h5; clear h5 H4)
        | (go_at_call 23; refine (H5.out.room A.out.g4).mono ?_; rw [R4.out]; rintro e w6 ⟨rfl, n6, rfl⟩; have H6 := Lib.hid (H5.out.quiet ((Mods.refl _ _).drewN n6)); clear H5)
        | (go_at_call 22; refine (H6.out.op A.out.g4 1 0 (64 * first) (.inr rfl)).mono ?_; rw [A.out.c5]; rintro e w7 ⟨rfl, f7, h7, _, _⟩; have H7 := Lib.hid h7; clear h7 H6)
        | (go_at_call 21; refine (H7.out.info 1).mono ?_; rw [I5.out.1, I5.out.2]; rintro e w8 ⟨rfl, m8⟩; have H8 := Lib.hid ((H7.out.quiet m8).alloc (.cells #[i64 4096, i64 k1, i64 k2, i64 0, .bool k4, .bool k5] 39)); clear m8 H7)
        | (go_at_call 23; refine (H8.out.room A.out.g5).mono ?_; rw [R5.out]; rintro e w9 ⟨rfl, n9, rfl⟩; have H9 := Lib.hid (H8.out.quiet ((Mods.refl _ _).drewN n9)); clear H8)
        | (go_at_call 13; refine (awake_calls (by first | exact H9.out.mods | exact H8.out.mods)).mono ?_; rintro e w10 ⟨rfl, m10⟩; have M10 := Lib.hid m10; clear m10))
      go_ret
      exact ⟨rfl, M10.out⟩

theorem lifted (os : Os) (started : os.Started) (H : Type) (enc : TypeId × Value → H) :
    ReturnsInHanded {} Try.checked os 5 .any (Rows.vmoRoomSpec.pre6 enc Try.prog Try.f5 Rows.vmoRoomRow.domain false) (Rows.vmoRoomSpec.post enc Try.prog Try.f5 false true false false) := by
  refine returnsInHanded_of_change (C := Try.checked) law_own started (by kernel_rfl) Try.func5
    (ChangeSpec.witness6 (enc := enc) (C := Try.checked) false ⟨#[], #[.int .i64 0, .int .i64 0, .int .i64 0], []⟩ 8 (by kernel_rfl) (by kernel_rfl) (by kernel_rfl) (by kernel_rfl)) ?_
  intro W base args ds gs before hval0 hW _ _
  have hval : ∀ (j : Nat) t v, Try.f5.params[j]? = some t → args[j]? = some v → Value.okWide Try.prog W .any base t v := hval0
  have hW' := hW
  obtain ⟨p, q, hA0, hV, rfl, _, _⟩ := hW
  have hA : DataW.TrodAll enc Try.prog W 0 (fun _ => true) true Try.f5.params.toList args.toList ds p := hA0
  rw [Try.params5] at hA hval
  obtain ⟨v0, v1, v2, d0, d1, d2, p0, p1, p2, rfl, rfl, rfl, h0, h1, h2⟩ := trodAll_three hA
  obtain ⟨rfl, rfl⟩ := trodVars_none hV
  obtain ⟨a0, rfl, rfl, rfl, w0⟩ := open_int Try.underlying3 (hval 0 3 v0 rfl rfl) h0
  obtain ⟨a1, rfl, rfl, rfl, w1⟩ := open_int Try.underlying3 (hval 1 3 v1 rfl rfl) h1
  obtain ⟨a2, rfl, rfl, rfl, w2⟩ := open_int Try.underlying3 (hval 2 3 v2 rfl rfl) h2
  clear hA0 hval0
  refine (walk a0 a1 a2 W).mono fun e W' ⟨he, hg⟩ => ?_
  subst he
  exact ⟨_, rfl, law_post (by kernel_rfl) (by kernel_rfl) rfl hW' rfl (hg.below (Nat.le_refl _) (fun _ h => h.elim))⟩

theorem proved : Rows.VmoRoomSaid :=
  OpenClaim.holds_of_wide 5 Try.f5 rfl rfl rfl rfl rfl rfl rfl ⟨rfl, rfl, rfl, rfl, rfl⟩ rfl rfl rfl rfl rfl (by kernel_rfl) Try.func5 (by kernel_rfl)
    (of_decide_eq_true (by kernel_rfl)) (by unfold Func.isWrapper; first | (rw [if_pos (by decide +kernel)]; kernel_rfl) | (rw [if_neg (by decide +kernel)]; exact ⟨rfl, rfl⟩))
    (fun os started H enc _ => lifted os started H enc)
#print axioms proved
end Go.Proofs.Ytkifgoadbnpofaa.vmoRoom
