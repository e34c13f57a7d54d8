/- Walks of layer 8: Read. -/
import Derived.Test.YtkifgoadbnpofaaVmoGood
import Derived.Laws.MakeOwn
namespace Go.Proofs.Ytkifgoadbnpofaa
open Go Go.RowKit
set_option maxRecDepth 100000

theorem made_zeros (k : Nat) : madeCells (Value.int .u8 0).cells (k * 1) = ((zeros k).map u8).toArray := by
  apply Array.ext
  · simp [madeCells, zeros]
  · intro i h1 h2
    simp [madeCells, zeros, u8, Value.cells, Nat.mod_one]
theorem make_bytes (k : Nat) (h : k ≤ 140737488355328) : ∀ W, (Instr.makeSlice 22 (.int .i64 k) (.int .i64 k)).run Try.prog W = .ok (.slice (some ⟨W.heap.size, 0, none⟩) k k) (W.alloc (.cells ((zeros k).map u8).toArray tByte)) := by
  intro W
  obtain ⟨i0, hi, hz0, hz1, hz2⟩ := info_parts infoByte
  have := run_make (P := Try.prog) W 22 tByte i0 _ Try.underlying22 hi hz0 .i64 .i64 k k (by omega) (Int.le_refl _) (by rw [hz2]; omega) (by omega)
  rw [this, hz1]
  simp only [Int.toNat_natCast, made_zeros]
theorem make_bytes_room (k : Nat) (h : k ≤ 140737488355328) : ∀ W, (Instr.makeSlice 22 (.int .i64 0) (.int .i64 k)).run Try.prog W = .ok (.slice (some ⟨W.heap.size, 0, none⟩) 0 k) (W.alloc (.cells ((zeros k).map u8).toArray tByte)) := by
  intro W
  obtain ⟨i0, hi, hz0, hz1, hz2⟩ := info_parts infoByte
  have := run_make (P := Try.prog) W 22 tByte i0 _ Try.underlying22 hi hz0 .i64 .i64 0 k (Int.le_refl _) (by omega) (by rw [hz2]; omega) (by omega)
  rw [this, hz1]
  simp only [Int.toNat_natCast, made_zeros, Int.toNat_zero]

/-- One page's part of a range. -/
theorem CInv.chunk {q : Pool} {Ro : Int → Nat} {fr : List (Int × Int)} (C : CInv q Ro fr) {a : Int} {K : Nat} (hK : (K : Int) ≤ 64 - a % 64) :
    (match get fr (a / 64) with
      | some f => (q.read f (a % 64) K).1
      | none => zeros K) = (List.range K).map fun (i : Nat) => byteAt q fr (a + (i : Int)) := by
  have hpl := C.pg_len (a / 64)
  have hcell : (match get fr (a / 64) with
      | some f => (q.read f (a % 64) K).1
      | none => zeros K) = ((pg q fr (a / 64)).drop (a % 64).toNat).take K := by
    unfold pg
    cases hg : get fr (a / 64) with
    | none =>
      simp only [zeros, List.drop_replicate, List.take_replicate]
      congr 1
      omega
    | some f =>
      obtain ⟨x, hx, _, _, hd⟩ := C.inv.at_ (f := f) (by have := cnt_pos hg; show 0 < Ro f + cnt fr f; omega)
      have hin : inside (a % 64) K 64 = true := by simp [inside]; omega
      simp only [Pool.read, hx, hin, if_true, Int.toNat_natCast, hd]
  refine Eq.trans hcell ?_
  rw [take_drop_eq (by omega)]
  apply List.map_congr_left
  intro i hi
  simp at hi
  unfold byteAt
  rw [show (a + (i : Int)) / 64 = a / 64 by omega, show ((a + (i : Int)) % 64).toNat = (a % 64).toNat + i by omega]

/-- More bytes behind a new slice. -/
theorem NewBytes.more {w wr wb w' : World} {l m : List Int} {v v' : Value} (h : NewBytes w l v wr) (M : Mods (fun _ => False) wr wb) (hrow : Row w' tByte 1 v' (l.length + m.length) (l.map u8 ++ m.map u8))
    (hgr : wb.grownBy w' v.ownBlock) (hown : v'.ownBlock = v.ownBlock ∨ v'.ownBlock = some wb.heap.size) : NewBytes w (l ++ m) v' w' := by
  obtain ⟨hr, hf, hm⟩ := h
  refine ⟨by simpa using hrow, fun k hk => ?_, (hm.trans M (fun _ h => h.elim)).grown hgr (fun k hk => .inr (hf k hk))⟩
  rcases hown with e | e
  · exact hf k (by rw [← e]; exact hk)
  · rw [hk] at e; cases e
    have := hm.size
    have := M.size
    omega

section
variable {w : World} {Y : Lay} {S : Vset} {pv : Value} {pf : Nat → Prop}
theorem Good.reachOk (G : Good S) (id : Int) : ∀ o, S.find id = some o → 0 ≤ o.size ∧ o.size ≤ 8589934592 ∧ BaseOk S Vset.fuel id := fun o h => by
  obtain ⟨hat, _⟩ := vreach_facts h
  have := G.size _ (G.mem hat)
  simp only at this
  exact ⟨by omega, by omega, G.base_ok hat⟩
set_option maxHeartbeats 2000000 in
theorem vread_calls (R : VRep w Y S pv pf) (G : Good S) (id a n : Int) :
    Calls Try.prog 16 #[ptr Y.s, i64 id, i64 a, i64 n] w (BytesPost w (S.read id a n).1 (S.read id a n).2) := by
  have HF := Lib.hid (vfind_calls R id)
  have HRe := Lib.hid (vreach_calls R a n (G.reachOk id))
  cases h : S.find id with
  | none =>
    have hre : S.reach id a n = (0, 0, -25) := by simp [Vset.reach, h]
    have H := Lib.hid (show S.read id a n = ([], -25) by simp [Vset.read, h, hre])
    rw [show S.ptr Y id = .pointer none by simp [Vset.ptr, h]] at HF
    rw [show S.reachPtr Y id a n = .pointer none by simp [Vset.reachPtr, hre], hre] at HRe
    clear h R G hre
    go_enter Try.func16, Try.ntmps16
    go_wp2_with (first
      | (go_at_call 40; refine HF.out.mono ?_; rintro e w' ⟨rfl, rfl⟩)
      | (go_at_call 41; refine HRe.out.mono ?_; rintro e w' ⟨rfl, k, rfl⟩))
    go_ret2
    rw [H.out]; exact ⟨_, rfl, Row.nil _ _ _, (fun k h => by cases h), (Mods.refl _ _).drewN _⟩
  | some o =>
    obtain ⟨hat, hdr⟩ := vreach_facts h
    rw [show S.ptr Y id = ptr (Y.blk id) by simp [Vset.ptr, h]] at HF
    by_cases hn0 : n < 0
    · have H := Lib.hid (show S.read id a n = ([], -10) by simp [Vset.read, h, hn0])
      clear h R G HRe hat hdr
      go_enter Try.func16, Try.ntmps16
      go_wp2_with (go_at_call 40; refine HF.out.mono ?_; rintro e w' ⟨rfl, rfl⟩)
      go_ret2
      rw [H.out]; exact ⟨_, rfl, Row.nil _ _ _, (fun k h => by cases h), Mods.refl _ _⟩
    · by_cases hn1 : 4096 < n
      · have H := Lib.hid (show S.read id a n = ([], -10) by simp [Vset.read, h, hn1])
        clear h R G HRe hat hdr
        go_enter Try.func16, Try.ntmps16
        go_wp2_with (go_at_call 40; refine HF.out.mono ?_; rintro e w' ⟨rfl, rfl⟩)
        go_ret2
        rw [H.out]; exact ⟨_, rfl, Row.nil _ _ _, (fun k h => by cases h), Mods.refl _ _⟩
      · have hnb : decide (4096 < n) = false := by simpa using hn1
        cases hin : inside a n o.size with
        | false =>
          have hre : S.reach id a n = (0, 0, -14) := by simp [Vset.reach, h, hin]
          have H := Lib.hid (show S.read id a n = ([], -14) by simp [Vset.read, hre, hn0, hn1])
          rw [show S.reachPtr Y id a n = .pointer none by simp [Vset.reachPtr, hre], hre] at HRe
          clear h R G hre hin hat hdr
          go_enter Try.func16, Try.ntmps16
          go_wp2_with (first
            | (go_at_call 40; refine HF.out.mono ?_; rintro e w' ⟨rfl, rfl⟩)
            | (go_at_call 41; refine HRe.out.mono ?_; rintro e w' ⟨rfl, k, rfl⟩))
          go_ret2
          rw [H.out]; exact ⟨_, rfl, Row.nil _ _ _, (fun k h => by cases h), (Mods.refl _ _).drewN _⟩
        | true =>
          obtain ⟨N, rfl⟩ : ∃ N : Nat, n = N := ⟨n.toNat, by omega⟩
          obtain ⟨ob, b1, b2, b3, b4, b5⟩ := G.base_in hat
          have hre : S.reach id a N = ((S.base Vset.fuel id 0).1, (S.base Vset.fuel id 0).2 + a, 0) := by simp [Vset.reach, h, hin]
          have hob := G.size _ (G.mem b1)
          simp only at hob
          have hin' := hin
          simp only [inside, decide_eq_true_eq] at hin'
          have H := Lib.hid (show S.read id a N = ((List.range N).map fun (i : Nat) => byteAt S.pool ob.frames ((S.base Vset.fuel id 0).2 + a + (i : Int)), 0) by
            rw [G.read h (by omega) (by omega) hin]
            unfold Vset.bytes Vset.view Vset.byte
            simp only [b1, Int.add_assoc, Int.toNat_natCast])
          rw [show S.reachPtr Y id a N = ptr (Y.blk (S.base Vset.fuel id 0).1) by simp [Vset.reachPtr, hre], hre] at HRe
          simp only at HRe
          generalize S.base Vset.fuel id 0 = B at *
          obtain ⟨bi, bf⟩ := B
          simp only at *
          have hA0 : 0 ≤ bf + a := by omega
          have hA1 : bf + a + (N : Int) ≤ 4294967296 := by omega
          have HC := Lib.hid (G.cinv b1)
          have HR := Lib.hid R
          have Hb1 := Lib.hid b1
          have Hb2 := Lib.hid b2
          generalize bf + a = A at *
          clear h G hre hin hat hdr hin' b3 b4 b5 hob
          have hmk0 := make_bytes_room N (by omega)
          have Hm := Lib.hid (show N ≤ maxLen by unfold maxLen; omega)
          obtain ⟨i0, hi, hz0, hz1, hz2⟩ := info_parts infoByte
          have Hi := Lib.hid hi
          have Hz0 := Lib.hid hz0
          have Hz1 := Lib.hid hz1
          have Hz2 := Lib.hid hz2
          have Hgl := Lib.hid (fun (k : Nat) => (show ((List.range k).map fun (i : Nat) => byteAt S.pool ob.frames (A + (i : Int))).length = k by simp))
          have Hch := Lib.hid (fun (k K : Nat) (hK : (K : Int) ≤ 64 - (A + (k : Int)) % 64) => (show ((List.range k).map fun (i : Nat) => byteAt S.pool ob.frames (A + (i : Int))) ++
              (match get ob.frames ((A + (k : Int)) / 64) with
                | some f => (S.pool.read f ((A + (k : Int)) % 64) K).1
                | none => zeros K) = (List.range (k + K)).map fun (i : Nat) => byteAt S.pool ob.frames (A + (i : Int)) by
            rw [HC.out.chunk hK, map_range_append]
            congr 1
            apply List.map_congr_left
            intro i _
            rw [show A + ((k + i : Nat) : Int) = A + (k : Int) + (i : Int) by push_cast; omega]))
          generalize hLL : (fun (k : Nat) => (List.range k).map fun (i : Nat) => byteAt S.pool ob.frames (A + (i : Int))) = LL at *
          have HLL : ∀ k, ((List.range k).map fun (i : Nat) => byteAt S.pool ob.frames (A + (i : Int))) = LL k := fun k => by rw [← hLL]
          simp only [HLL] at Hgl Hch H
          clear hLL HLL hi hz0 hz1 hz2 b1 b2 R
          go_enter Try.func16, Try.ntmps16
          go_wp2_with (first
            | (go_at_call 40; refine HF.out.mono ?_; rintro e w' ⟨rfl, rfl⟩)
            | (go_at_call 41; refine HRe.out.mono ?_; rintro e w' ⟨rfl, k, rfl⟩))
          clear hmk0
          go_loopg [12] N (fun g v12 wr => ∃ k : Nat, k ≤ N ∧ N - k = g ∧ NewBytes w' (LL k) v12 wr)
          case atStart =>
            refine ⟨0, by omega, rfl, ?_⟩
            have e0 : LL 0 = [] := List.eq_nil_of_length_eq_zero (Hgl.out 0)
            rw [e0]
            refine ⟨⟨rfl, .inr ⟨_, 0, N, _, rfl, hp_alloc_new _ _, by simp, Hm.out, by simp [zeros], by simp⟩⟩, fun k hk => ?_, ((Mods.refl _ _).drewN _).alloc _⟩
            cases hk; simp
          case round =>
            obtain ⟨k, hkN, rfl, hNB⟩ := hrel
            have HNB := Lib.hid hNB
            have hMw := hNB.2.2
            have hob := Hb1.out
            have HR1 := Lib.hid (HR.out.mods hMw (fun _ _ h => h))
            clear hNB hMw hob
            by_cases hlt : k < N
            · obtain ⟨K, hK⟩ : ∃ K : Nat, (K : Int) = min ((N : Int) - (k : Int)) (64 - (A + (k : Int)) % 64) := ⟨(min ((N : Int) - (k : Int)) (64 - (A + (k : Int)) % 64)).toNat, by omega⟩
              have hm0 : 0 ≤ (A + (k : Int)) % 64 := by omega
              have hm1 : (A + (k : Int)) % 64 < 64 := by omega
              have hK1 : 0 < K := by omega
              have hK2 : k + K ≤ N := by omega
              have hm := get_mem Hb1.out
              have hh := HR1.out.hdr _ hm
              have c0 : wr.cell? ⟨Y.s, 0, none⟩ = some (ptr Y.pb) := (cell_of (o := 0) HR1.out.top).trans rfl
              have c2 : wr.cell? ⟨Y.blk bi, 2, none⟩ = some (.map (some (Y.mb bi))) := (cell_of (o := 2) hh).trans (by simp [ocells, framesV, Hb2.out])
              have hsl := hp_lt HR1.out.top
              have hbl := hp_lt hh
              have hF := HR1.out.frs _ hm Hb2.out
              simp only at hF
              have hml := hF.lt
              have hl := looksF (Y.mb bi) (encI ob.frames)
              have hk := encI_get ob.frames ((A + (k : Int)) / 64)
              obtain ⟨va, vc, hv12⟩ := HNB.out.1.shape
              rw [Hgl.out k] at hv12
              subst hv12
              have HMA := Lib.hid (fun (cs : Array Value) => (Mods.refl (fun _ => False) wr).alloc (.cells cs tByte))
              have HRow := Lib.hid (fun (W : World) (M : Mods (fun _ => False) wr W) => (show Row W tByte 1 (.slice va k vc) k ((LL k).map u8) from
                by have := HNB.out.1.mods M (fun _ _ h => h); rw [Hgl.out k] at this; exact this))
              have Hmax := Lib.hid (show k + K ≤ maxLen by have := Hm.out; omega)
              have Hby := Lib.hid (show (k + K) * 1 ≤ 140737488355328 by omega)
              have hch := Hch.out k K (by omega)
              have hmk := make_bytes K (by omega)
              have HEnd := Lib.hid (fun (m : List Int) (wb : World) (M : Mods (fun _ => False) wr wb) (v' : Value) (w9 : World) (hmK : m.length = K) (hrow : Row w9 tByte 1 v' (k + K) ((LL k).map u8 ++ m.map u8)) (hgr : wb.grownBy w9 (Value.slice va k vc).ownBlock)
                  (hown : v'.ownBlock = (Value.slice va k vc).ownBlock ∨ v'.ownBlock = some wb.heap.size) => HNB.out.more M (v' := v') (w' := w9) (m := m) (by rw [Hgl.out k, hmK]; exact hrow) hgr hown)
              clear hm hh
              generalize encI ob.frames = F at *
              by_cases hle : (N : Int) - (k : Int) ≤ 64 - (A + (k : Int)) % 64
              · have hJ : (K : Int) = (N : Int) - (k : Int) := by omega
                have HJ := Lib.hid hJ
                clear hK
                cases hp : get ob.frames ((A + (k : Int)) / 64) with
                | none =>
                  rw [hp] at hk hch
                  have Hc1 := Lib.hid hch
                  have Hsrc := Lib.hid (show Src (wr.alloc (.cells ((zeros K).map u8).toArray tByte)) 1 (.slice (some ⟨wr.heap.size, 0, none⟩) K K) K ((zeros K).map u8) from Src.fresh wr 1 K K _ tByte (by simp [zeros]) (u8_one _))
                  rw [hJ] at hmk
                  clear hp hch hJ
                  go_wp2_with (at_builtin; refine wpList_append_row (v := .slice va k vc) rfl (.tmp 87) (.tmp 88) 22 rfl tByte i0 (.int .u8 0) 1 1 Try.underlying22 Hi.out Hz0.out Hz1.out Hz2.out rfl (by decide) rfl (HRow.out _ (HMA.out _)) rfl Hsrc.out Hmax.out Hby.out ?_; intro v9 w9 hrow hgr hblk hz; have H9 := Lib.hid (HEnd.out (zeros K) _ (HMA.out _) v9 w9 (zeros_len K) hrow hgr hblk); clear hrow hgr hblk hz)
                  go_roundg (N - (k + K))
                  case measure => omega
                  case rel => exact ⟨k + K, hK2, rfl, by have := H9.out; rw [Hc1.out] at this; exact this⟩
                | some f =>
                  rw [hp] at hk hch
                  have hch' : LL k ++ (S.pool.read f ((A + (k : Int)) % 64) K).1 = LL (k + K) := hch
                  have Hc1 := Lib.hid hch'
                  clear hch'
                  have HRd := Lib.hid (pread_calls (HR1.out.pool.mods (HMA.out ((zeros K).map u8).toArray) (fun _ _ h => h)) f ((A + (k : Int)) % 64) K)
                  have Hrl := Lib.hid (show (S.pool.read f ((A + (k : Int)) % 64) K).1.length = K by
                    have := congrArg List.length hch
                    simp only [List.length_append, Hgl.out] at this
                    omega)
                  rw [hJ] at hmk HRd
                  rw [hJ] at Hrl Hc1
                  generalize (S.pool.read f ((A + (k : Int)) % 64) _).1 = lr at *
                  generalize (S.pool.read f ((A + (k : Int)) % 64) _).2 = sr at *
                  clear hp hch hJ
                  go_wp2_with (first
                    | (go_at_call 45; refine HRd.out.mono ?_; rintro e w3 ⟨v3, rfl, hn3⟩; have Hn3 := Lib.hid hn3; clear hn3)
                    | (at_builtin; refine wpList_append_row (v := .slice va k vc) rfl (.tmp 87) (.tmp 88) 22 rfl tByte i0 (.int .u8 0) 1 1 Try.underlying22 Hi.out Hz0.out Hz1.out Hz2.out rfl (by decide) rfl (HRow.out _ ((HMA.out _).trans Hn3.out.2.2 (fun _ h => h.elim))) rfl (by have := (BytesAt.ofRow Hn3.out.1 (by rw [Hrl.out]; have := Hm.out; omega)).src; rw [Hrl.out] at this; exact this) Hmax.out Hby.out ?_; intro v9 w9 hrow hgr hblk hz; have H9 := Lib.hid (HEnd.out lr _ ((HMA.out _).trans Hn3.out.2.2 (fun _ h => h.elim)) v9 w9 Hrl.out hrow hgr hblk); clear hrow hgr hblk hz))
                  go_roundg (N - (k + K))
                  case measure => omega
                  case rel => exact ⟨k + K, hK2, rfl, by have := H9.out; rw [Hc1.out] at this; exact this⟩
              · have hJ : (K : Int) = 64 - (A + (k : Int)) % 64 := by omega
                have HJ := Lib.hid hJ
                have hlb : decide ((N : Int) - (k : Int) ≤ 64 - (A + (k : Int)) % 64) = false := by simpa using hle
                clear hK
                cases hp : get ob.frames ((A + (k : Int)) / 64) with
                | none =>
                  rw [hp] at hk hch
                  have Hc1 := Lib.hid hch
                  have Hsrc := Lib.hid (show Src (wr.alloc (.cells ((zeros K).map u8).toArray tByte)) 1 (.slice (some ⟨wr.heap.size, 0, none⟩) K K) K ((zeros K).map u8) from Src.fresh wr 1 K K _ tByte (by simp [zeros]) (u8_one _))
                  rw [hJ] at hmk
                  clear hp hch hJ
                  go_wp2_with (at_builtin; refine wpList_append_row (v := .slice va k vc) rfl (.tmp 87) (.tmp 88) 22 rfl tByte i0 (.int .u8 0) 1 1 Try.underlying22 Hi.out Hz0.out Hz1.out Hz2.out rfl (by decide) rfl (HRow.out _ (HMA.out _)) rfl Hsrc.out Hmax.out Hby.out ?_; intro v9 w9 hrow hgr hblk hz; have H9 := Lib.hid (HEnd.out (zeros K) _ (HMA.out _) v9 w9 (zeros_len K) hrow hgr hblk); clear hrow hgr hblk hz)
                  go_roundg (N - (k + K))
                  case measure => omega
                  case rel => exact ⟨k + K, hK2, rfl, by have := H9.out; rw [Hc1.out] at this; exact this⟩
                | some f =>
                  rw [hp] at hk hch
                  have hch' : LL k ++ (S.pool.read f ((A + (k : Int)) % 64) K).1 = LL (k + K) := hch
                  have Hc1 := Lib.hid hch'
                  clear hch'
                  have HRd := Lib.hid (pread_calls (HR1.out.pool.mods (HMA.out ((zeros K).map u8).toArray) (fun _ _ h => h)) f ((A + (k : Int)) % 64) K)
                  have Hrl := Lib.hid (show (S.pool.read f ((A + (k : Int)) % 64) K).1.length = K by
                    have := congrArg List.length hch
                    simp only [List.length_append, Hgl.out] at this
                    omega)
                  rw [hJ] at hmk HRd
                  rw [hJ] at Hrl Hc1
                  generalize (S.pool.read f ((A + (k : Int)) % 64) _).1 = lr at *
                  generalize (S.pool.read f ((A + (k : Int)) % 64) _).2 = sr at *
                  clear hp hch hJ
                  go_wp2_with (first
                    | (go_at_call 45; refine HRd.out.mono ?_; rintro e w3 ⟨v3, rfl, hn3⟩; have Hn3 := Lib.hid hn3; clear hn3)
                    | (at_builtin; refine wpList_append_row (v := .slice va k vc) rfl (.tmp 87) (.tmp 88) 22 rfl tByte i0 (.int .u8 0) 1 1 Try.underlying22 Hi.out Hz0.out Hz1.out Hz2.out rfl (by decide) rfl (HRow.out _ ((HMA.out _).trans Hn3.out.2.2 (fun _ h => h.elim))) rfl (by have := (BytesAt.ofRow Hn3.out.1 (by rw [Hrl.out]; have := Hm.out; omega)).src; rw [Hrl.out] at this; exact this) Hmax.out Hby.out ?_; intro v9 w9 hrow hgr hblk hz; have H9 := Lib.hid (HEnd.out lr _ ((HMA.out _).trans Hn3.out.2.2 (fun _ h => h.elim)) v9 w9 Hrl.out hrow hgr hblk); clear hrow hgr hblk hz))
                  go_roundg (N - (k + K))
                  case measure => omega
                  case rel => exact ⟨k + K, hK2, rfl, by have := H9.out; rw [Hc1.out] at this; exact this⟩
            · have hkN : k = N := by omega
              subst hkN
              have HE := Lib.hid (Hgl.out k)
              obtain ⟨va, vc, hv12⟩ := HNB.out.1.shape
              rw [Hgl.out k] at hv12
              subst hv12
              go_wp2
              go_ret2
              rw [H.out]
              exact ⟨_, rfl, HNB.out⟩
end
end Go.Proofs.Ytkifgoadbnpofaa
