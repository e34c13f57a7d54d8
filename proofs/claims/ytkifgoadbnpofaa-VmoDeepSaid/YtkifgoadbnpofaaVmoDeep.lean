/- The statement VmoDeepSaid: for every depth and every bytes the law returns true and the arguments read as they did. Conditions: none. -/
import Derived.Test.YtkifgoadbnpofaaLaw
import Derived.Test.YtkifgoadbnpofaaVmoDeepPure
import Derived.Deep.LoopGhost
namespace Go.Proofs.Ytkifgoadbnpofaa.vmoDeep
open Go Go.RowKit Go.ChangeShapes Go.WideShapes Go.ChangeAt
set_option maxRecDepth 100000

def Ok (w : World) (e : Ending) (w' : World) : Prop := e = .returned (.bool true) ∧ Mods (fun _ => False) w w'
def s0 : Vset := ⟨⟨[], 40, 0⟩, [], 40, 0⟩
theorem g0 : Good s0 := good_new (by decide) (by decide) (by decide) (by decide)
set_option maxHeartbeats 4000000 in
theorem walk (deep : Int) {v : Value} {l : List Int} (w : World) (hv : BytesAt w v l) : Calls Try.prog 4 #[i64 deep, v] w (Ok w) := by
  have HN := Lib.hid (vs_new (Mods.refl (fun _ => False) w) (n := 40) (o := 40) (by decide) (by decide) (by decide) (by decide))
  have Hv := Lib.hid hv
  obtain ⟨va, vc, rfl, _, hvm, _⟩ := hv
  by_cases h1 : deep < 1
  · have d1 : decide (deep < 1) = true := by simpa using h1
    go_enter Try.func4, Try.ntmps4
    go_wp2_with (first
      | (go_at_call 12; refine HN.out.mono ?_; rintro e w1 ⟨s, f1, rfl, h1, _, _⟩; have H1 := Lib.hid h1; clear h1)
      | (go_at_call 13; refine (awake_calls H1.out.mods).mono ?_; rintro e w9 ⟨rfl, m9⟩; have M9 := Lib.hid m9; clear m9))
    go_ret
    exact ⟨rfl, M9.out⟩
  · by_cases h2 : 20 < deep
    · have d1 : decide (deep < 1) = false := by simpa using h1
      have d2 : decide (20 < deep) = true := by simpa using h2
      go_enter Try.func4, Try.ntmps4
      go_wp2_with (first
        | (go_at_call 12; refine HN.out.mono ?_; rintro e w1 ⟨s, f1, rfl, h1, _, _⟩; have H1 := Lib.hid h1; clear h1)
        | (go_at_call 13; refine (awake_calls H1.out.mods).mono ?_; rintro e w9 ⟨rfl, m9⟩; have M9 := Lib.hid m9; clear m9))
      go_ret
      exact ⟨rfl, M9.out⟩
    · by_cases h3 : 64 < l.length
      · have d1 : decide (deep < 1) = false := by simpa using h1
        have d2 : decide (20 < deep) = false := by simpa using h2
        have d3 : decide ((64 : Int) < (l.length : Int)) = true := by simp; omega
        go_enter Try.func4, Try.ntmps4
        go_wp2_with (first
          | (go_at_call 12; refine HN.out.mono ?_; rintro e w1 ⟨s, f1, rfl, h1, _, _⟩; have H1 := Lib.hid h1; clear h1)
          | (go_at_call 13; refine (awake_calls H1.out.mods).mono ?_; rintro e w9 ⟨rfl, m9⟩; have M9 := Lib.hid m9; clear m9))
        go_ret
        exact ⟨rfl, M9.out⟩
      · obtain ⟨N, rfl⟩ : ∃ N : Nat, deep = N := ⟨deep.toNat, by omega⟩
        have d1 : decide ((N : Int) < 1) = false := by simpa using h1
        have d2 : decide (20 < (N : Int)) = false := by simpa using h2
        have d3 : decide ((64 : Int) < (l.length : Int)) = false := by simp; omega
        obtain ⟨S0, hc0, hD0⟩ := deep_start (S0 := s0) rfl g0
        have Hc0 := Lib.hid hc0
        have HD0 := Lib.hid hD0
        have hN0 : 0 < N := by omega
        clear hc0 hD0
        go_enter Try.func4, Try.ntmps4
        go_wp2_with (first
          | (go_at_call 12; refine HN.out.mono ?_; rintro e w1 ⟨s, f1, rfl, h1, _, _⟩; have H1 := Lib.hid (show Vs w w1 s s0 f1 from h1); clear h1)
          | (go_at_call 14; refine (H1.out.create g0 (by decide) 1920).mono ?_; rw [Hc0.out]; rintro e w2 ⟨rfl, f2, h2, _, _⟩; have H2 := Lib.hid h2; clear h2))
        clear hvm
        go_loopg [8, 9, 48] N (fun g v8 v9 i wr => ∃ (k : Nat) (S : Vset) (fp : Nat → Prop), k ≤ N ∧ k ≤ 16 ∧ N - k = g ∧ v8 = .int .i64 (1 + (k : Int)) ∧ v9 = .int .i64 k ∧ i = .int .i64 k ∧ Deep k S ∧ Vs w wr s S fp)
        case atStart => exact ⟨0, S0, f2, by omega, by omega, rfl, by go_num, rfl, rfl, HD0.out, H2.out⟩
        case round =>
          obtain ⟨k, S, fp, hkN, hk16, rfl, rfl, rfl, rfl, hD, hV⟩ := hrel
          have HD := Lib.hid hD
          have HV := Lib.hid hV
          clear hD hV
          obtain ⟨q1, q2, q3, q4, q5, hq, hqs⟩ := info_size HD.out.top
          have Hq := Lib.hid hq
          have Hqs := Lib.hid hqs
          clear hq hqs
          by_cases hlt : k < N
          · by_cases h16 : k < 16
            · obtain ⟨S', hsl, hD'⟩ := HD.out.next h16
              have Hsl := Lib.hid hsl
              have HD' := Lib.hid hD'
              have hm16 : ((k : Int) == 16) = false := by simp; omega
              clear hsl hD'
              go_wp2_with (first
                | (go_at_call 21; refine (HV.out.info (1 + (k : Int))).mono ?_; rw [Hq.out, Hqs.out]; rintro e w3 ⟨rfl, m3⟩; have H3 := Lib.hid (HV.out.quiet m3); clear m3)
                | (go_at_call 18; refine ((H3.out.alloc _).slice HD.out.good (by have := HD.out.last; omega) (1 + (k : Int)) 64 (1920 - 64 * (k : Int) - 64)).mono ?_; rw [Hsl.out]; rintro e w4 ⟨rfl, f4, h4, _, _⟩; have H4 := Lib.hid h4; clear h4))
              go_roundg (N - (k + 1))
              case measure => omega
              case rel => exact ⟨k + 1, S', f4, by omega, by omega, rfl, rfl, by go_num, by go_num, HD'.out, H4.out⟩
            · have hk : k = 16 := by omega
              have Hsl := Lib.hid (show S.slice (1 + (k : Int)) 64 (1920 - 64 * (k : Int) - 64) = (S, 0, -2) by subst hk; exact HD.out.stop)
              have hm16 : ((k : Int) == 16) = true := by simp; omega
              have HB := Lib.hid (fun W fp' (h : Vs w W s S fp') => Beside.arg h Hv.out)
              obtain ⟨S1, hw1, hg1, hl1, hr1, hs1⟩ := HD.out.end_ (by omega) (by omega) (l := l) (by omega)
              have Hw1 := Lib.hid hw1
              have Hg1 := Lib.hid hg1
              have Hl1 := Lib.hid hl1
              have Hr1 := Lib.hid hr1
              have Hs1 := Lib.hid hs1
              have hk1 : 0 ≤ (k : Int) := by omega
              have hk2 : (k : Int) ≤ 16 := by omega
              clear hw1 hg1 hl1 hr1 hs1 hk h16
              go_wp2_with (first
                | (go_at_call 21; refine (HV.out.info (1 + (k : Int))).mono ?_; rw [Hq.out, Hqs.out]; rintro e w3 ⟨rfl, m3⟩; have H3 := Lib.hid (HV.out.quiet m3); clear m3)
                | (go_at_call 18; refine ((H3.out.alloc _).slice HD.out.good (by have := HD.out.last; omega) (1 + (k : Int)) 64 (1920 - 64 * (k : Int) - 64)).mono ?_; rw [Hsl.out]; rintro e w4 ⟨rfl, f4, h4, _, _⟩; have H4 := Lib.hid h4; clear h4)
                | (go_at_call 15; refine (H4.out.write HD.out.good (1 + (k : Int)) 0 (HB.out _ _ H4.out)).mono ?_; rw [Hw1.out]; rintro e w5 ⟨rfl, f5, h5, m5, n5⟩; have H5 := Lib.hid h5; have HB5 := Lib.hid ((HB.out _ _ H4.out).next m5 n5); clear h5 m5 n5)
                | (go_at_call 16; go_loud (refine (H5.out.read Hg1.out 1 (64 * (k : Int)) l.length).mono ?_; rw [Hr1.out]; rintro e w6 ⟨v6, rfl, n6⟩; replace n6 : NewBytes _ l v6 w6 := n6; have H6 := Lib.hid (H5.out.quiet n6.2.2); have HB6 := Lib.hid (HB5.out.quiet n6.2.2); have HC6 := Lib.hid (Beside.new H5.out n6 (by unfold maxLen; omega)); obtain ⟨a6, c6, rfl⟩ := n6.1.shape; clear n6))
                | (go_at_call 17; refine (H6.out.snapshot Hg1.out Hl1.out (1 + (k : Int)) 0 64).mono ?_; rw [Hs1.out]; rintro e w7 ⟨rfl, f7, h7, m7, n7⟩; have H7 := Lib.hid h7; have HB7 := Lib.hid (HB6.out.next m7 n7); have HC7 := Lib.hid (HC6.out.next m7 n7); clear h7 m7 n7)
                | (go_at_call 19; refine (same_calls HC7.out.1 HB7.out.1).mono ?_; rintro e w8 ⟨rfl, rfl⟩)
                | (go_at_call 13; refine (awake_calls H7.out.mods).mono ?_; rintro e w9 ⟨rfl, m9⟩; have M9 := Lib.hid m9; clear m9))
              go_ret
              exact ⟨rfl, M9.out⟩
          · obtain rfl : k = N := by omega
            have HB := Lib.hid (Beside.arg HV.out Hv.out)
            obtain ⟨S1, hw1, hg1, hl1, hr1, hs1⟩ := HD.out.end_ (by omega) (by omega) (l := l) (by omega)
            have Hw1 := Lib.hid hw1
            have Hg1 := Lib.hid hg1
            have Hl1 := Lib.hid hl1
            have Hr1 := Lib.hid hr1
            have Hs1 := Lib.hid hs1
            clear hw1 hg1 hl1 hr1 hs1
            go_wp2_with (first
              | (go_at_call 15; refine (HV.out.write HD.out.good (1 + (k : Int)) 0 HB.out).mono ?_; rw [Hw1.out]; rintro e w5 ⟨rfl, f5, h5, m5, n5⟩; have H5 := Lib.hid h5; have HB5 := Lib.hid (HB.out.next m5 n5); clear h5 m5 n5)
              | (go_at_call 16; go_loud (refine (H5.out.read Hg1.out 1 (64 * (k : Int)) l.length).mono ?_; rw [Hr1.out]; rintro e w6 ⟨v6, rfl, n6⟩; replace n6 : NewBytes _ l v6 w6 := n6; have H6 := Lib.hid (H5.out.quiet n6.2.2); have HB6 := Lib.hid (HB5.out.quiet n6.2.2); have HC6 := Lib.hid (Beside.new H5.out n6 (by unfold maxLen; omega)); obtain ⟨a6, c6, rfl⟩ := n6.1.shape; clear n6))
              | (go_at_call 17; refine (H6.out.snapshot Hg1.out Hl1.out (1 + (k : Int)) 0 64).mono ?_; rw [Hs1.out]; rintro e w7 ⟨rfl, f7, h7, m7, n7⟩; have H7 := Lib.hid h7; have HB7 := Lib.hid (HB6.out.next m7 n7); have HC7 := Lib.hid (HC6.out.next m7 n7); clear h7 m7 n7)
              | (go_at_call 19; refine (same_calls HC7.out.1 HB7.out.1).mono ?_; rintro e w8 ⟨rfl, rfl⟩)
              | (go_at_call 13; refine (awake_calls H7.out.mods).mono ?_; rintro e w9 ⟨rfl, m9⟩; have M9 := Lib.hid m9; clear m9))
            go_ret
            exact ⟨rfl, M9.out⟩

theorem lifted (os : Os) (started : os.Started) (H : Type) (enc : TypeId × Value → H) :
    ReturnsInHanded {} Try.checked os 4 .any (Rows.vmoDeepSpec.pre6 enc Try.prog Try.f4 Rows.vmoDeepRow.domain false) (Rows.vmoDeepSpec.post enc Try.prog Try.f4 false true false false) := by
  refine returnsInHanded_of_change (C := Try.checked) law_own started (by kernel_rfl) Try.func4
    (ChangeSpec.witness6 (enc := enc) (C := Try.checked) false ⟨#[], #[.int .i64 0, .slice none 0 0], []⟩ 8 (by kernel_rfl) (by kernel_rfl) (by kernel_rfl) (by kernel_rfl)) ?_
  intro W base args ds gs before hval0 hW _ _
  have hval : ∀ (j : Nat) t v, Try.f4.params[j]? = some t → args[j]? = some v → Value.okWide Try.prog W .any base t v := hval0
  have hW' := hW
  obtain ⟨p, q, hA0, hV, rfl, _, _⟩ := hW
  have hA : DataW.TrodAll enc Try.prog W 0 (fun _ => true) true Try.f4.params.toList args.toList ds p := hA0
  rw [Try.params4] at hA hval
  obtain ⟨v0, v1, d0, d1, p0, p1, rfl, rfl, rfl, h0, h1⟩ := trodAll_two hA
  obtain ⟨rfl, rfl⟩ := trodVars_none hV
  obtain ⟨a0, rfl, rfl, rfl, w0⟩ := open_int Try.underlying3 (hval 0 3 v0 rfl rfl) h0
  obtain ⟨a1, len, cap, rfl⟩ := okWide_slice Try.underlying22 (hval 1 22 v1 rfl rfl)
  obtain ⟨fuel, hf⟩ := h1
  obtain ⟨l, hl, _⟩ := bytes_of_trod (v := .slice a1 len cap) hf
  clear hA0 hval0
  refine (walk a0 W hl).mono fun e W' ⟨he, hg⟩ => ?_
  subst he
  exact ⟨_, rfl, law_post (by kernel_rfl) (by kernel_rfl) rfl hW' rfl (hg.below (Nat.le_refl _) (fun _ h => h.elim))⟩

theorem proved : Rows.VmoDeepSaid :=
  OpenClaim.holds_of_wide 4 Try.f4 rfl rfl rfl rfl rfl rfl rfl ⟨rfl, rfl, rfl, rfl, rfl⟩ rfl rfl rfl rfl rfl (by kernel_rfl) Try.func4 (by kernel_rfl)
    (of_decide_eq_true (by kernel_rfl)) (by unfold Func.isWrapper; first | (rw [if_pos (by decide +kernel)]; kernel_rfl) | (rw [if_neg (by decide +kernel)]; exact ⟨rfl, rfl⟩))
    (fun os started H enc _ => lifted os started H enc)
#print axioms proved
end Go.Proofs.Ytkifgoadbnpofaa.vmoDeep
