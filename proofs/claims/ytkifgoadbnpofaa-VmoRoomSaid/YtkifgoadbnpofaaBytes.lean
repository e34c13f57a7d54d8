/- Slices of bytes; bytes.Clone. -/
import Derived.Test.YtkifgoadbnpofaaProg
import Derived.Test.YtkifgoadbnpofaaMem
namespace Go.Proofs.Ytkifgoadbnpofaa
open Go Go.RowKit
set_option maxRecDepth 100000

def u8 (n : Int) : Value := .int .u8 n
def tByte : Nat := 5
/-- A slice of byte that holds l. -/
def BytesAt (w : World) (v : Value) (l : List Int) : Prop :=
  ∃ a c, v = .slice a l.length c ∧ l.length ≤ c ∧ l.length ≤ maxLen ∧ (0 < l.length → ∃ b off, a = some ⟨b, off, none⟩ ∧ b < w.heap.size ∧ ∀ j, j < l.length → w.cell? ⟨b, off + j, none⟩ = some (u8 (nth l j)))
theorem BytesAt.ofRow {w : World} {e : TypeId} {v : Value} {l : List Int} (h : Row w e 1 v l.length (l.map u8)) (hm : l.length ≤ maxLen) : BytesAt w v l := by
  rcases h.2 with ⟨rfl, h0⟩ | ⟨g, off, cap, cur, rfl, hg, _⟩
  · refine ⟨none, 0, by rw [h0], by omega, hm, fun h => by omega⟩
  · rename_i hrest
    exact ⟨_, cap, rfl, hrest.1, hm, fun _ => ⟨g, off, rfl, hp_lt hg, fun j hj => h.cells j _ (by rw [nth_get hj]; simp [hj])⟩⟩
theorem BytesAt.src {w : World} {v : Value} {l : List Int} (h : BytesAt w v l) : Src w 1 v l.length (l.map u8) := by
  obtain ⟨a, c, rfl, _, _, hr⟩ := h
  refine ⟨by simp, by simp [u8, Value.oneCell'], ?_⟩
  by_cases h0 : 0 < l.length
  · obtain ⟨b, off, rfl, _, hc⟩ := hr h0
    refine .inr ⟨b, off, c, rfl, fun j u hu => ?_⟩
    have hj : j < l.length := by
      have := (List.getElem?_eq_some_iff.1 hu).1
      simpa using this
    rw [hc j hj, nth_get hj]
    simp [hj] at hu
    rw [hu]
  · exact .inl ⟨by omega, a, c, by rw [show l.length = 0 by omega]⟩
/-- The block of a slice that is not empty. -/
def Live (v : Value) (l : List Int) (k : Nat) : Prop := 0 < l.length ∧ v.ownBlock = some k
theorem BytesAt.of {w w' : World} {v : Value} {l : List Int} (h : BytesAt w v l) (hs : w.heap.size ≤ w'.heap.size) (hb : ∀ k, Live v l k → k < w.heap.size → w'.heap[k]? = w.heap[k]?) : BytesAt w' v l := by
  obtain ⟨a, c, rfl, hc', hm, hr⟩ := h
  refine ⟨a, c, rfl, hc', hm, fun h0 => ?_⟩
  obtain ⟨b, off, rfl, hlt, hc⟩ := hr h0
  refine ⟨b, off, rfl, by omega, fun j hj => ?_⟩
  rw [← hc j hj]
  exact World.cell?_of_block (hb b ⟨h0, rfl⟩ hlt)
theorem BytesAt.live_lt {w : World} {v : Value} {l : List Int} (h : BytesAt w v l) {k : Nat} (hk : Live v l k) : k < w.heap.size := by
  obtain ⟨a, c, rfl, _, _, hr⟩ := h
  obtain ⟨b, off, rfl, hlt, _⟩ := hr hk.1
  cases hk.2; exact hlt
theorem BytesAt.mods {w w' : World} {F : Nat → Prop} {v : Value} {l : List Int} (h : BytesAt w v l) (M : Mods F w w') (hF : ∀ k, Live v l k → ¬ F k) : BytesAt w' v l :=
  h.of M.size (fun k hk hlt => M.block k hlt (hF k hk))
theorem u8_one (l : List Int) : ∀ u ∈ l.map u8, u.oneCell' = true := by
  intro u hu
  obtain ⟨_, _, rfl⟩ := List.mem_map.1 hu
  rfl
theorem infoByte : (Try.prog.info? tByte).map (fun i => (i.zero, i.size, i.bytes)) = some (some (.int .u8 0), 1, 1) := by kernel_rfl

theorem BytesAt.head {w : World} {v : Value} {l : List Int} (h : BytesAt w v l) {k : Nat} (hk : k ≤ l.length) :
    ∃ v', (∀ W, (Instr.slice 22 v none (some (.int .i64 k)) none).run Try.prog W = .ok v' W) ∧ BytesAt w v' (l.take k) ∧ v'.ownBlock = v.ownBlock := by
  obtain ⟨a, c, rfl, hc, hm, hr⟩ := h
  have hl : (l.take k).length = k := by rw [List.length_take]; omega
  refine ⟨.slice a k c, fun W => ?_, ⟨a, c, by rw [hl], by omega, by omega, fun h0 => ?_⟩, by cases a <;> rfl⟩
  · simp [Instr.slice, run_underlying Try.underlying22, Instr.sliceBounds, Instr.sliceBound, asIntOf, Result.andThen, Try.sizeOf5]
    rw [if_pos (by omega)]
    simp
    cases a with
    | none => simp
    | some ad => simp [Addr.add]
  · rw [hl] at h0
    obtain ⟨b, off, rfl, hlt, hcl⟩ := hr (by omega)
    refine ⟨b, off, rfl, hlt, fun j hj => ?_⟩
    rw [hl] at hj
    rw [hcl j (by omega), nth_get (by omega), nth_get (by rw [hl]; exact hj)]
    simp
theorem BytesAt.tail {w : World} {v : Value} {l : List Int} (h : BytesAt w v l) {k : Nat} (hk : k ≤ l.length) :
    ∃ v', (∀ W, (Instr.slice 22 v (some (.int .i64 k)) none none).run Try.prog W = .ok v' W) ∧ BytesAt w v' (l.drop k) ∧ v'.ownBlock = v.ownBlock := by
  obtain ⟨a, c, rfl, hc, hm, hr⟩ := h
  have hl : (l.drop k).length = l.length - k := List.length_drop
  refine ⟨.slice (if c = k then a else a.map (·.add k)) (l.length - k) (c - k), fun W => ?_, ⟨_, c - k, by rw [hl], by omega, by omega, fun h0 => ?_⟩, ?_⟩
  · simp [Instr.slice, run_underlying Try.underlying22, Instr.sliceBounds, Instr.sliceBound, asIntOf, Result.andThen, Try.sizeOf5]
    rw [if_pos (by omega)]
    try simp
  · rw [hl] at h0
    obtain ⟨b, off, rfl, hlt, hcl⟩ := hr (by omega)
    refine ⟨b, off + k, by rw [if_neg (by omega)]; simp [add_lit'], hlt, fun j hj => ?_⟩
    rw [hl] at hj
    rw [Nat.add_assoc, hcl (k + j) (by omega), nth_get (by omega), nth_get (by rw [hl]; exact hj)]
    simp
  · by_cases hck : c = k
    · rw [if_pos hck]; cases a <;> rfl
    · rw [if_neg hck]
      cases a with
      | none => rfl
      | some ad => simp [Addr.add, Value.ownBlock]; split <;> rfl
/-- A new slice of bytes. -/
def NewBytes (w : World) (l : List Int) (v : Value) (w' : World) : Prop := Row w' tByte 1 v l.length (l.map u8) ∧ (∀ k, v.ownBlock = some k → w.heap.size ≤ k) ∧ Mods (fun _ => False) w w'
def BClonePost (w : World) (l : List Int) (e : Ending) (w' : World) : Prop := ∃ v, e = .returned v ∧ NewBytes w l v w'

section
variable {w : World}
set_option maxHeartbeats 1000000 in
theorem bclone_calls {v : Value} {ids : List Int} (hids : BytesAt w v ids) (hown : ∀ k, v.ownBlock = some k → k < w.heap.size) (hsz : ids.length ≤ 140737488355328) :
    Calls Try.prog 72 #[v] w (BClonePost w ids) := by
  obtain ⟨i0, hi, hz0, hz1, hz2⟩ := info_parts infoByte
  have hsrc := hids.src
  have hnil := run_eql_nilslice Try.underlying22
  obtain ⟨a, c, rfl, hcap, hmax, hr⟩ := hids
  clear hcap
  cases a with
  | none =>
    have hl : ids.length = 0 := by
      by_cases h : 0 < ids.length
      · obtain ⟨b, off, h', _⟩ := hr h; cases h'
      · omega
    have hn : ids = [] := List.eq_nil_of_length_eq_zero hl
    subst hn
    clear hr hsrc
    go_enter Try.func72, Try.ntmps72
    go_wp2
    go_ret
    exact ⟨_, rfl, Row.nil _ _ _, (fun k h => by cases h), Mods.refl _ _⟩
  | some ad =>
    have Hs := Lib.hid hsrc
    have hlt : ∀ k, (Value.slice (some ad) ids.length c).ownBlock = some k → k < w.heap.size := hown
    have hm0 : 0 + ids.length ≤ maxLen := by omega
    have hby0 : (0 + ids.length) * 1 ≤ 140737488355328 := by omega
    have Hm := Lib.hid hm0
    have Hb := Lib.hid hby0
    clear hr hsrc hmax hsz hm0 hby0
    have Hrow := Lib.hid (show Row (w.alloc (.cells #[] 5)) tByte 1 (.slice (some ⟨w.heap.size, 0, none⟩) 0 0) 0 [] from
      ⟨rfl, .inr ⟨w.heap.size, 0, 0, #[], rfl, hp_alloc_new w _, Nat.le_refl _, Nat.zero_le _, by simp, by simp⟩⟩)
    have Hsrc := Lib.hid (show Src (w.alloc (.cells #[] 5)) 1 (.slice (some ad) ids.length c) ids.length (ids.map u8) from
      Hs.out.keep (fun k hk => hp_alloc_old _ _ _ (hlt k hk)))
    go_enter Try.func72, Try.ntmps72
    go_wp2_with (at_builtin; refine wpList_append_row rfl (.tmp 5) (.tmp 6) 22 rfl tByte i0 (.int .u8 0) 1 1 Try.underlying22 hi hz0 hz1 hz2 rfl (by decide) rfl Hrow.out rfl Hsrc.out Hm.out Hb.out ?_; intro v' w1 hrow hgr hblk hz; have Hr1 := Lib.hid hrow; have Hg1 := Lib.hid hgr; have Hb1 := Lib.hid hblk; clear hrow hgr hblk hz)
    go_ret
    refine ⟨v', rfl, ?_, ?_, ((Mods.refl _ _).alloc _).grown Hg1.out (fun k hk => ?_)⟩
    · have := Hr1.out
      simpa using this
    · intro k hk
      rcases Hb1.out with h | h
      · rw [h] at hk; cases hk; exact Nat.le_refl _
      · rw [h] at hk; cases hk; simp
    · cases hk; exact .inr (Nat.le_refl _)
end
end Go.Proofs.Ytkifgoadbnpofaa
