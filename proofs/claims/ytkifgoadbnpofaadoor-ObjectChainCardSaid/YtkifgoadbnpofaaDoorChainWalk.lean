/- ObjectChain answers true, whatever its two numbers are. Condition: the table of names stands. -/
import Derived.Test.YtkifgoadbnpofaaDoorAwake
import Derived.Test.YtkifgoadbnpofaaDoorChainPure
namespace Go.Proofs.YtkifgoadbnpofaaDoor
open Go Go.RowKit
set_option maxRecDepth 100000

theorem chain_nopin {n held : Nat} (h : ¬ 1 < held) : chain n 0 n = chain n held n := by
  unfold chain
  congr 1
  refine row_congr fun j _ _ => ?_
  have e1 : ¬ (j = 0 ∧ 1 < 0) := by omega
  have e2 : ¬ (j = held ∧ 1 < held) := by omega
  simp only [hd, if_neg e1, if_neg e2]
theorem st_pin {w0 w : World} {o : Nat} {S : Obs} {fp : Nat → Prop} (h : St w0 w o S fp) {a : Int} {S' : Obs} {s : Int} (hm : S.pin a = (S', s)) :
    Calls Tryd.prog 9 #[ptr o, i64 a] w (StPost w0 w o S' fp (i64 s)) := by
  obtain ⟨m, blk, bg, R⟩ := h.rep
  refine (pin_calls R a).mono ?_
  rintro e w' ⟨he, r, M⟩
  rw [hm] at he r
  exact ⟨he, fp, h.same ⟨m, blk, bg, r⟩ M, fun k hk => .inl hk, M⟩

theorem ends_cells {w : World} {K k g off c : Nat} (h : k < K) (hr : Row w tEv 3 (.slice (some ⟨g, off, none⟩) K c) K ((ends 1 K).flatMap evCells)) :
    w.cell? ⟨g, off + k * 3, none⟩ = some (.int .i64 ((k : Int) + 1)) ∧ w.cell? ⟨g, off + k * 3 + 1, none⟩ = some (.bool true) ∧ w.cell? ⟨g, off + k * 3 + 2, none⟩ = some (.int .i64 0) := by
  have key : ∀ (K a k : Nat), k < K → ((ends a K).flatMap evCells)[k * 3]? = some (.int .i64 ((a + k : Nat) : Int)) ∧ ((ends a K).flatMap evCells)[k * 3 + 1]? = some (.bool true) ∧ ((ends a K).flatMap evCells)[k * 3 + 2]? = some (.int .i64 0) := by
    intro K
    induction K with
    | zero => intro a k h; omega
    | succ K ih =>
      intro a k h
      have e : (ends a (K + 1)).flatMap evCells = i64 (a : Int) :: .bool true :: i64 0 :: (ends (a + 1) K).flatMap evCells := by
        simp [ends, List.range'_succ, evCells]
      rw [e]
      cases k with
      | zero => exact ⟨rfl, rfl, rfl⟩
      | succ k =>
        have := ih (a + 1) k (by omega)
        rw [show (k + 1) * 3 = k * 3 + 3 by omega]
        simp only [List.getElem?_cons_succ]
        rw [show a + (k + 1) = a + 1 + k by omega]
        exact this
  obtain ⟨h1, h2, h3⟩ := key K 1 k h
  refine ⟨?_, ?_, ?_⟩
  · have := hr.cells _ _ h1
    rw [this, show ((1 + k : Nat) : Int) = (k : Int) + 1 by omega]
  · exact hr.cells _ _ h2
  · exact hr.cells _ _ h3

set_option maxHeartbeats 1000000 in
theorem chain_bad {w : World} (hn : Named w) (n held : Int) (h : n < 1 ∨ 60 < n ∨ held < 0 ∨ n < held) : Calls Tryd.prog 3 #[i64 n, i64 held] w (TruePost w) := by
  have Hn := Lib.hid hn
  have Hb := Lib.hid h
  clear hn h
  by_cases h1 : n < 1
  ·
    go_enter Tryd.func3, Tryd.ntmps3
    go_wp2_with (first
      | (go_at_call 6; refine (new_calls 100 (by decide) (by decide)).mono ?_; rintro e w1 ⟨o, fp, rfl, r, hf, M⟩; have S0 := Lib.hid (⟨r, M, hf, Hn.out⟩ : St w w1 o { most := 100 } fp); clear r hf M)
      | (go_at_call 7; refine (awake_calls S0.out.nm).mono ?_; rintro e w2 ⟨rfl, M2⟩))
    go_ret
    exact ⟨rfl, S0.out.mods.trans M2 (fun _ h => h.elim)⟩
  · by_cases h2 : 60 < n
    ·
      go_enter Tryd.func3, Tryd.ntmps3
      go_wp2_with (first
        | (go_at_call 6; refine (new_calls 100 (by decide) (by decide)).mono ?_; rintro e w1 ⟨o, fp, rfl, r, hf, M⟩; have S0 := Lib.hid (⟨r, M, hf, Hn.out⟩ : St w w1 o { most := 100 } fp); clear r hf M)
        | (go_at_call 7; refine (awake_calls S0.out.nm).mono ?_; rintro e w2 ⟨rfl, M2⟩))
      go_ret
      exact ⟨rfl, S0.out.mods.trans M2 (fun _ h => h.elim)⟩
    · by_cases h3 : held < 0
      ·
        go_enter Tryd.func3, Tryd.ntmps3
        go_wp2_with (first
          | (go_at_call 6; refine (new_calls 100 (by decide) (by decide)).mono ?_; rintro e w1 ⟨o, fp, rfl, r, hf, M⟩; have S0 := Lib.hid (⟨r, M, hf, Hn.out⟩ : St w w1 o { most := 100 } fp); clear r hf M)
          | (go_at_call 7; refine (awake_calls S0.out.nm).mono ?_; rintro e w2 ⟨rfl, M2⟩))
        go_ret
        exact ⟨rfl, S0.out.mods.trans M2 (fun _ h => h.elim)⟩
      · have h4 : n < held := by have := Hb.out; omega
        go_enter Tryd.func3, Tryd.ntmps3
        go_wp2_with (first
          | (go_at_call 6; refine (new_calls 100 (by decide) (by decide)).mono ?_; rintro e w1 ⟨o, fp, rfl, r, hf, M⟩; have S0 := Lib.hid (⟨r, M, hf, Hn.out⟩ : St w w1 o { most := 100 } fp); clear r hf M)
          | (go_at_call 7; refine (awake_calls S0.out.nm).mono ?_; rintro e w2 ⟨rfl, M2⟩))
        go_ret
        exact ⟨rfl, S0.out.mods.trans M2 (fun _ h => h.elim)⟩

set_option maxHeartbeats 2000000 in
theorem chain_good {w : World} (hn : Named w) (n held : Nat) (h1 : 1 ≤ n) (h2 : n ≤ 60) (h3 : held ≤ n) : Calls Tryd.prog 3 #[i64 n, i64 held] w (TruePost w) := by
  have Hn := Lib.hid hn
  clear hn
  have d1 : decide ((n : Int) < 1) = false := by simp; omega
  have d2 : decide ((60 : Int) < n) = false := by simp; omega
  have d3 : decide ((held : Int) < 0) = false := by simp
  have d4 : decide (n < held) = false := by simp; omega
  go_enter Tryd.func3, Tryd.ntmps3
  go_wp2_with (go_at_call 6; refine (new_calls 100 (by decide) (by decide)).mono ?_; rintro e w1 ⟨o, fp, rfl, r, hf, M⟩; have S0 := Lib.hid (⟨r, M, hf, Hn.out⟩ : St w w1 o { most := 100 } fp); clear r hf M)
  go_loopg [38] n (fun g i wr => ∃ k : Nat, k ≤ n ∧ i = .int .i64 k ∧ n - k = g ∧ ∃ fp, St w wr o (chain k 0 k) fp)
  case atStart => exact ⟨0, Nat.zero_le _, rfl, rfl, _, S0.out⟩
  case round =>
    obtain ⟨k, hk, rfl, rfl, fp1, hS⟩ := hrel
    have HS := Lib.hid hS
    clear hS
    by_cases hlt : k < n
    · go_wp2_with fail
      refine (st_make HS.out (chain_new (by omega)) (chain_make (by omega))).mono ?_
      rintro e w2 ⟨rfl, fp2, s2, _, _⟩
      have S2 := Lib.hid s2
      clear s2
      go_wp2
      go_roundg (n - (k + 1))
      case measure => omega
      case rel => exact ⟨k + 1, by omega, by go_num, rfl, fp2, S2.out⟩
    · have Hk := Lib.hid (show k = n by omega)
      have HSn := Lib.hid (by have := HS.out; rw [Hk.out] at this; exact this : St w wr o (chain n 0 n) fp1)
      by_cases hh : 1 < held
      · have hP := Lib.hid (st_pin HSn.out (chain_pin hh h3))
        go_wp2_with (go_at_call 9; refine hP.out.mono ?_; rintro e w2 ⟨rfl, fp2, s2, _, _⟩; have S2 := Lib.hid s2; clear s2)
        go_loopg [6] n (fun g i wr => ∃ k : Nat, 1 ≤ k ∧ k ≤ n ∧ i = .int .i64 k ∧ k = g ∧ ∃ fp, St w wr o (chain n held k) fp)
        case atStart => exact ⟨n, h1, Nat.le_refl _, rfl, rfl, _, S2.out⟩
        case round =>
          obtain ⟨i, hi1, hi2, rfl, rfl, fp3, hS3⟩ := hrel
          have S3 := Lib.hid hS3
          clear hS3
          by_cases hi : 1 < i
          · obtain ⟨i', rfl⟩ : ∃ i', i = i' + 1 := ⟨i - 1, by omega⟩
            have hcast : ((i' + 1 : Nat) : Int) = (i' : Int) + 1 := by omega
            have hc := chain_carry (held := held) (n := n) (i := i') (by omega) (by omega)
            have hb := (fun h (hh : (chain n held (i' + 1)).at (i' : Int) = some h) => (by
              rw [chain_at_in (by omega) (by omega)] at hh
              cases hh
              have : (hd n held (i' + 1) i').bag = [] := by simp only [hd]; rw [if_neg (by omega)]
              rw [this]; simp : (h.bag.length + [((i' + 1 : Nat) : Int)].length) * 8 ≤ 140737488355328))
            rw [hcast] at hc hb
            have Hc := Lib.hid hc
            have Hb := Lib.hid hb
            clear hc hb hcast
            go_wp2_with fail
            refine (st_carry (S3.out.alloc _) (one_int _ _) (fun k hk => by cases hk; exact ⟨by simp, fun hf => absurd (S3.out.lt _ hf) (Nat.lt_irrefl _)⟩) Hb.out Hc.out).mono ?_
            rintro e w4 ⟨rfl, fp4, s4, _, _⟩
            have S4 := Lib.hid s4
            clear s4
            go_wp2
            go_roundg i'
            case measure => omega
            case rel => exact ⟨i', by omega, by omega, by go_num, rfl, fp4, S4.out⟩
          · have Hi : i = 1 := by omega
            subst Hi
            obtain ⟨S', hu, hlen⟩ := chain_unref h1 h3
            have Hu := Lib.hid hu
            have hwt := chain_weight n held 1
            have Hw := Lib.hid (show [(1 : Int)].length + weight (chain n held 1).all ≤ 1099511627776 by simp only [List.length_cons, List.length_nil]; omega)
            obtain ⟨K, hKs, hK1⟩ : ∃ K, stop n held - 1 = K ∧ 1 ≤ K := ⟨_, rfl, by unfold stop; split <;> omega⟩
            have hK2 : (1 < held → K + 1 = held) ∧ (¬ 1 < held → K = n) := by
              refine ⟨fun h => ?_, fun h => ?_⟩ <;> simp only [stop, h, if_true, if_false] at hKs <;> omega
            have hlen' : S'.all.length = n - K := by omega
            rw [hKs] at Hu
            have Hlen := Lib.hid hlen'
            clear hu hwt hlen hlen' hKs
            go_wp2_with fail
            refine (st_unref (S3.out.alloc _) (one_int _ _) (fun k hk => by cases hk; exact ⟨by simp, fun hf => absurd (S3.out.lt _ hf) (Nat.lt_irrefl _)⟩) Hw.out Hu.out).mono ?_
            rintro e w5 ⟨v5, rfl, hr5, hf5, s5, _⟩
            have S5 := Lib.hid s5
            have hl5 : (ends 1 K).length = K := by simp [ends]
            rw [hl5] at hr5
            have hsh : ∃ g off c, v5 = .slice (some ⟨g, off, none⟩) K c := by
              rcases hr5.2 with ⟨_, h⟩ | ⟨g, off, cap, cur, h, _⟩
              · omega
              · exact ⟨_, _, _, h⟩
            obtain ⟨g5, off5, c5, rfl⟩ := hsh
            have Hr5 := Lib.hid hr5
            have Hcnt := Lib.hid (st_count S5.out)
            rw [Hlen.out] at Hcnt
            clear s5 hr5 hf5 hl5
            have hcmp := hK2.1 hh
            have Hcmp := Lib.hid hK2
            clear hK2
            go_wp2_with (go_at_call 12; refine Hcnt.out.mono ?_; rintro e w6 ⟨rfl, rfl⟩)
            go_loopg [92] K (fun g i wr => ∃ k : Nat, k ≤ K ∧ i = .int .i64 k ∧ K - k = g ∧ Mods (fun _ => False) w5 wr)
            case atStart => exact ⟨0, Nat.zero_le _, rfl, rfl, Mods.refl _ _⟩
            case round =>
              obtain ⟨k, hk, rfl, rfl, hm⟩ := hrel
              have Hm := Lib.hid hm
              by_cases hlt : k < K
              · have hev := ends_cells hlt (Hr5.out.mods hm (fun _ _ h => h))
                obtain ⟨e1, e2, e3⟩ := hev
                clear hm
                go_wp2
                go_roundg (K - (k + 1))
                case measure => omega
                case rel => exact ⟨k + 1, by omega, by go_num, rfl, Hm.out.alloc _⟩
              · clear hm
                have SN := Lib.hid (show Named wr from S5.out.nm.mods Hm.out (fun h => h))
                go_wp2_with (go_at_call 7; refine (awake_calls SN.out).mono ?_; rintro e w7 ⟨rfl, M7⟩)
                go_ret
                exact ⟨rfl, (S5.out.mods.trans Hm.out (fun _ h => h.elim)).trans M7 (fun _ h => h.elim)⟩
      · have HT := Lib.hid (by have := HSn.out; rw [chain_nopin hh] at this; exact this : St w wr o (chain n held n) fp1)
        go_wp2
        have S2 := Lib.hid HT.out
        go_loopg [6] n (fun g i wr => ∃ k : Nat, 1 ≤ k ∧ k ≤ n ∧ i = .int .i64 k ∧ k = g ∧ ∃ fp, St w wr o (chain n held k) fp)
        case atStart => exact ⟨n, h1, Nat.le_refl _, rfl, rfl, _, S2.out⟩
        case round =>
          obtain ⟨i, hi1, hi2, rfl, rfl, fp3, hS3⟩ := hrel
          have S3 := Lib.hid hS3
          clear hS3
          by_cases hi : 1 < i
          · obtain ⟨i', rfl⟩ : ∃ i', i = i' + 1 := ⟨i - 1, by omega⟩
            have hcast : ((i' + 1 : Nat) : Int) = (i' : Int) + 1 := by omega
            have hc := chain_carry (held := held) (n := n) (i := i') (by omega) (by omega)
            have hb := (fun h (hh : (chain n held (i' + 1)).at (i' : Int) = some h) => (by
              rw [chain_at_in (by omega) (by omega)] at hh
              cases hh
              have : (hd n held (i' + 1) i').bag = [] := by simp only [hd]; rw [if_neg (by omega)]
              rw [this]; simp : (h.bag.length + [((i' + 1 : Nat) : Int)].length) * 8 ≤ 140737488355328))
            rw [hcast] at hc hb
            have Hc := Lib.hid hc
            have Hb := Lib.hid hb
            clear hc hb hcast
            go_wp2_with fail
            refine (st_carry (S3.out.alloc _) (one_int _ _) (fun k hk => by cases hk; exact ⟨by simp, fun hf => absurd (S3.out.lt _ hf) (Nat.lt_irrefl _)⟩) Hb.out Hc.out).mono ?_
            rintro e w4 ⟨rfl, fp4, s4, _, _⟩
            have S4 := Lib.hid s4
            clear s4
            go_wp2
            go_roundg i'
            case measure => omega
            case rel => exact ⟨i', by omega, by omega, by go_num, rfl, fp4, S4.out⟩
          · have Hi : i = 1 := by omega
            subst Hi
            obtain ⟨S', hu, hlen⟩ := chain_unref h1 h3
            have Hu := Lib.hid hu
            have hwt := chain_weight n held 1
            have Hw := Lib.hid (show [(1 : Int)].length + weight (chain n held 1).all ≤ 1099511627776 by simp only [List.length_cons, List.length_nil]; omega)
            obtain ⟨K, hKs, hK1⟩ : ∃ K, stop n held - 1 = K ∧ 1 ≤ K := ⟨_, rfl, by unfold stop; split <;> omega⟩
            have hK2 : (1 < held → K + 1 = held) ∧ (¬ 1 < held → K = n) := by
              refine ⟨fun h => ?_, fun h => ?_⟩ <;> simp only [stop, h, if_true, if_false] at hKs <;> omega
            have hlen' : S'.all.length = n - K := by omega
            rw [hKs] at Hu
            have Hlen := Lib.hid hlen'
            clear hu hwt hlen hlen' hKs
            go_wp2_with fail
            refine (st_unref (S3.out.alloc _) (one_int _ _) (fun k hk => by cases hk; exact ⟨by simp, fun hf => absurd (S3.out.lt _ hf) (Nat.lt_irrefl _)⟩) Hw.out Hu.out).mono ?_
            rintro e w5 ⟨v5, rfl, hr5, hf5, s5, _⟩
            have S5 := Lib.hid s5
            have hl5 : (ends 1 K).length = K := by simp [ends]
            rw [hl5] at hr5
            have hsh : ∃ g off c, v5 = .slice (some ⟨g, off, none⟩) K c := by
              rcases hr5.2 with ⟨_, h⟩ | ⟨g, off, cap, cur, h, _⟩
              · omega
              · exact ⟨_, _, _, h⟩
            obtain ⟨g5, off5, c5, rfl⟩ := hsh
            have Hr5 := Lib.hid hr5
            have Hcnt := Lib.hid (st_count S5.out)
            rw [Hlen.out] at Hcnt
            clear s5 hr5 hf5 hl5
            have hcmp := hK2.2 hh
            have Hcmp := Lib.hid hK2
            clear hK2
            go_wp2_with (go_at_call 12; refine Hcnt.out.mono ?_; rintro e w6 ⟨rfl, rfl⟩)
            go_loopg [92] K (fun g i wr => ∃ k : Nat, k ≤ K ∧ i = .int .i64 k ∧ K - k = g ∧ Mods (fun _ => False) w5 wr)
            case atStart => exact ⟨0, Nat.zero_le _, rfl, rfl, Mods.refl _ _⟩
            case round =>
              obtain ⟨k, hk, rfl, rfl, hm⟩ := hrel
              have Hm := Lib.hid hm
              by_cases hlt : k < K
              · have hev := ends_cells hlt (Hr5.out.mods hm (fun _ _ h => h))
                obtain ⟨e1, e2, e3⟩ := hev
                clear hm
                go_wp2
                go_roundg (K - (k + 1))
                case measure => omega
                case rel => exact ⟨k + 1, by omega, by go_num, rfl, Hm.out.alloc _⟩
              · clear hm
                have SN := Lib.hid (show Named wr from S5.out.nm.mods Hm.out (fun h => h))
                go_wp2_with (go_at_call 7; refine (awake_calls SN.out).mono ?_; rintro e w7 ⟨rfl, M7⟩)
                go_ret
                exact ⟨rfl, (S5.out.mods.trans Hm.out (fun _ h => h.elim)).trans M7 (fun _ h => h.elim)⟩

theorem chain_law {w : World} (hn : Named w) (n held : Int) : Calls Tryd.prog 3 #[i64 n, i64 held] w (TruePost w) := by
  by_cases h : n < 1 ∨ 60 < n ∨ held < 0 ∨ n < held
  · exact chain_bad hn n held h
  · obtain ⟨a, rfl⟩ := Int.eq_ofNat_of_zero_le (show 0 ≤ n by omega)
    obtain ⟨b, rfl⟩ := Int.eq_ofNat_of_zero_le (show 0 ≤ held by omega)
    exact chain_good hn a b (by omega) (by omega) (by omega)
end Go.Proofs.YtkifgoadbnpofaaDoor
