/- Layer 18's fixed call 'awake' answers true. Condition: the table of names stands. -/
import Derived.Test.YtkifgoadbnpofaaDoorObjH
namespace Go.Proofs.YtkifgoadbnpofaaDoor
open Go Go.RowKit
set_option maxRecDepth 100000

def aw0 : Obs := { most := 4 }
def aw1 : Obs := (aw0.make 4).1
def aw2 : Obs := (aw1.make 4).1
def aw3 : Obs := (aw2.make 7).1
def aw4 : Obs := (aw3.pair 1 2).1
def aw5 : Obs := (aw4.carry 2 [3]).1
def aw6 : Obs := (aw5.unref [2]).1
theorem aw0m : aw0.make 4 = (aw1, 1, 0) := by decide +kernel
theorem aw1m : aw1.make 4 = (aw2, 2, 0) := by decide +kernel
theorem aw2m : aw2.make 7 = (aw3, 3, 0) := by decide +kernel
theorem aw3p : aw3.pair 1 2 = (aw4, 0) := by decide +kernel
theorem aw4c : aw4.carry 2 [3] = (aw5, 0) := by decide +kernel
theorem aw5u : aw5.unref [2] = (aw6, [⟨2, true, 0⟩, ⟨1, false, 4⟩, ⟨3, true, 0⟩], 0) := by decide +kernel
theorem aw6c : aw6.all.length = 1 := by decide +kernel
theorem aw4s : ∀ h, aw4.at 2 = some h → h.bag.length = 0 := by
  have e : aw4.at 2 = some { kind := 4, peer := 1, refs := 1, shows := 2, paired := true } := by decide +kernel
  intro h hh
  rw [e] at hh
  cases hh; rfl
theorem aw5w : weight aw5.all = 4 := by decide +kernel

theorem Named.mods {w w' : World} {F : Nat → Prop} (h : Named w) (M : Mods F w w') (hF : ¬ F 0) : Named w' := by
  intro k hk
  obtain ⟨s, hs, he⟩ := h k hk
  exact ⟨s, by rw [M.cell (p := ⟨0, k, none⟩) (World.block_lt_of_cell? _ _ hs) hF]; exact hs, he⟩
theorem Named.lt {w : World} (h : Named w) : 0 < w.heap.size := by
  obtain ⟨s, hs, _⟩ := h 0 (by decide)
  exact World.block_lt_of_cell? _ _ hs

/-- Layer 18 in the middle of a law: w0 is the world in which the law was called. -/
structure St (w0 w : World) (o : Nat) (S : Obs) (fp : Nat → Prop) : Prop where
  rep : ∃ m blk bg, ORep w o S fp m blk bg
  mods : Mods (fun _ => False) w0 w
  old : ∀ k, fp k → w0.heap.size ≤ k
  named : Named w0
theorem St.nm {w0 w : World} {o : Nat} {S : Obs} {fp : Nat → Prop} (h : St w0 w o S fp) : Named w := h.named.mods h.mods (fun h => h)
theorem St.lt {w0 w : World} {o : Nat} {S : Obs} {fp : Nat → Prop} (h : St w0 w o S fp) : ∀ k, fp k → k < w.heap.size := by
  obtain ⟨m, blk, bg, R⟩ := h.rep; exact R.lt
theorem St.upd {w0 w w' : World} {o : Nat} {S S' : Obs} {fp : Nat → Prop} (h : St w0 w o S fp) (u : Upd (OR o S') fp w w') : ∃ fp', St w0 w' o S' fp' ∧ (∀ k, fp' k → fp k ∨ w.heap.size ≤ k) ∧ Mods fp w w' := by
  obtain ⟨fp', r, M, hf⟩ := u
  refine ⟨fp', ⟨r, h.mods.trans M (fun k hk => .inr (h.old k hk)), fun k hk => ?_, h.named⟩, hf, M⟩
  rcases hf k hk with h1 | h1
  · exact h.old k h1
  · have := h.mods.size; omega
theorem St.same {w0 w w' : World} {o : Nat} {S S' : Obs} {fp : Nat → Prop} (h : St w0 w o S fp) (hr : ∃ m blk bg, ORep w' o S' fp m blk bg) (M : Mods fp w w') : St w0 w' o S' fp :=
  ⟨hr, h.mods.trans M (fun k hk => .inr (h.old k hk)), h.old, h.named⟩
/-- Memory beside it may come. -/
theorem St.grow {w0 w w' : World} {o : Nat} {S : Obs} {fp F : Nat → Prop} (h : St w0 w o S fp) (M : Mods F w w') (hF : ∀ k, F k → ¬ fp k ∧ w0.heap.size ≤ k) : St w0 w' o S fp := by
  obtain ⟨m, blk, bg, R⟩ := h.rep
  exact ⟨⟨m, blk, bg, R.mods M (fun k hk hf => (hF k hf).1 hk)⟩, h.mods.trans M (fun k hk => .inr (hF k hk).2), h.old, h.named⟩
theorem St.alloc {w0 w : World} {o : Nat} {S : Obs} {fp : Nat → Prop} (h : St w0 w o S fp) (x : Obj) : St w0 (w.alloc x) o S fp := h.grow (F := fun _ => False) ((Mods.refl _ _).alloc x) (fun _ h => h.elim)

/-- A fresh slice of one int. -/
theorem one_int (w : World) (x : Int) : IntsAt (w.alloc (.cells #[.int .i64 x] tInt)) (.slice (some ⟨w.heap.size, 0, none⟩) 1 1) [x] :=
  ⟨_, _, rfl, by simp [maxLen], fun _ => ⟨_, _, rfl, by simp, fun j hj => by
    have : j = 0 := by simpa using hj
    subst this
    rw [cell_of (hp_alloc_new w _)]; rfl⟩⟩

theorem one_int' (w : World) (x : Int) (b : Nat) (hb : b = w.heap.size) : IntsAt (w.alloc (.cells #[.int .i64 x] tInt)) (.slice (some ⟨b, 0, none⟩) 1 1) [x] := by
  subst hb; exact one_int w x

section
variable {w0 w : World} {o : Nat} {S : Obs} {fp : Nat → Prop}
def StPost (w0 w : World) (o : Nat) (S' : Obs) (fp : Nat → Prop) (v : Value) (e : Ending) (w' : World) : Prop :=
  e = .returned v ∧ ∃ fp', St w0 w' o S' fp' ∧ (∀ k, fp' k → fp k ∨ w.heap.size ≤ k) ∧ Mods fp w w'
theorem st_make (h : St w0 w o S fp) (hnew : S.at (wrap64 (S.last + 1)) = none) {kind : Int} {S' : Obs} {id s : Int} (hm : S.make kind = (S', id, s)) :
    Calls Tryd.prog 8 #[ptr o, i64 kind] w (StPost w0 w o S' fp (.tuple #[i64 id, i64 s])) := by
  obtain ⟨m, blk, bg, R⟩ := h.rep
  refine (make_calls h.nm R hnew kind).mono ?_
  rintro e w' ⟨he, u⟩
  rw [hm] at he u
  exact ⟨he, h.upd u⟩
theorem st_pair (h : St w0 w o S fp) {a b : Int} {S' : Obs} {s : Int} (hm : S.pair a b = (S', s)) :
    Calls Tryd.prog 13 #[ptr o, i64 a, i64 b] w (StPost w0 w o S' fp (i64 s)) := by
  obtain ⟨m, blk, bg, R⟩ := h.rep
  refine (pair_calls R a b).mono ?_
  rintro e w' ⟨he, r, M⟩
  rw [hm] at he r
  exact ⟨he, fp, h.same ⟨m, blk, bg, r⟩ M, fun k hk => .inl hk, M⟩
theorem st_carry (h : St w0 w o S fp) {holder : Int} {v : Value} {ids : List Int} (hids : IntsAt w v ids) (hown : ∀ k, v.ownBlock = some k → k < w.heap.size ∧ ¬ fp k)
    (hsz : ∀ h, S.at holder = some h → (h.bag.length + ids.length) * 8 ≤ 140737488355328) {S' : Obs} {s : Int} (hm : S.carry holder ids = (S', s)) :
    Calls Tryd.prog 10 #[ptr o, i64 holder, v] w (StPost w0 w o S' fp (i64 s)) := by
  obtain ⟨m, blk, bg, R⟩ := h.rep
  refine (carry_calls R holder hids hown hsz).mono ?_
  rintro e w' ⟨he, u⟩
  rw [hm] at he u
  exact ⟨he, h.upd u⟩
def StTells (w0 w : World) (o : Nat) (S' : Obs) (fp : Nat → Prop) (evs : List Ev) (s : Int) (e : Ending) (w' : World) : Prop :=
  ∃ v, e = .returned (.tuple #[v, i64 s]) ∧ Row w' tEv 3 v evs.length (evs.flatMap evCells) ∧ (∀ k, v.ownBlock = some k → w.heap.size ≤ k) ∧ St w0 w' o S' fp ∧ Mods fp w w'
theorem st_unref (h : St w0 w o S fp) {v : Value} {ids : List Int} (hids : IntsAt w v ids) (hown : ∀ k, v.ownBlock = some k → k < w.heap.size ∧ ¬ fp k)
    (hsm : ids.length + weight S.all ≤ 1099511627776) {S' : Obs} {evs : List Ev} {s : Int} (hm : S.unref ids = (S', evs, s)) :
    Calls Tryd.prog 11 #[ptr o, v] w (StTells w0 w o S' fp evs s) := by
  obtain ⟨m, blk, bg, R⟩ := h.rep
  refine (unref_calls R hids hown hsm).mono ?_
  rintro e w' ⟨v', he, h1, h2, h3, h4⟩
  rw [hm] at he h1 h3
  exact ⟨v', he, h1, h2, h.same ⟨m, blk, bg, h3⟩ h4, h4⟩
theorem st_count (h : St w0 w o S fp) : Calls Tryd.prog 12 #[ptr o] w fun e w' => e = .returned (i64 S.all.length) ∧ w = w' := by
  obtain ⟨m, blk, bg, R⟩ := h.rep
  refine (count_calls R).mono ?_
  rintro e w' ⟨he, rfl⟩
  exact ⟨he, rfl⟩
end

def TruePost (w : World) (e : Ending) (w' : World) : Prop := e = .returned (.bool true) ∧ Mods (fun _ => False) w w'

set_option maxHeartbeats 1000000 in
theorem awake_calls {w : World} (hn : Named w) : Calls Tryd.prog 7 #[] w (TruePost w) := by
  have Hn := Lib.hid hn
  clear hn
  go_enter Tryd.func7, Tryd.ntmps7
  go_wp2_with fail
  refine (new_calls 4 (by decide) (by decide)).mono ?_
  rintro e w1 ⟨o, fp, rfl, r, hf, M⟩
  have S0 := Lib.hid (⟨r, M, hf, Hn.out⟩ : St w w1 o aw0 fp)
  clear r hf M
  go_wp2_with fail
  refine (st_make S0.out (by decide +kernel) aw0m).mono ?_
  rintro e w2 ⟨rfl, fp2, s1, _, _⟩
  have S1 := Lib.hid s1
  clear s1 S0
  go_wp2_with fail
  refine (st_make S1.out (by decide +kernel) aw1m).mono ?_
  rintro e w3 ⟨rfl, fp3, s2, _, _⟩
  have S2 := Lib.hid s2
  clear s2 S1
  go_wp2_with fail
  refine (st_make S2.out (by decide +kernel) aw2m).mono ?_
  rintro e w4 ⟨rfl, fp4, s3, _, _⟩
  have S3 := Lib.hid s3
  clear s3 S2
  go_wp2_with fail
  refine (st_pair S3.out aw3p).mono ?_
  rintro e w5 ⟨rfl, fp5, s4, _, _⟩
  have S4 := Lib.hid s4
  clear s4 S3
  go_wp2_with fail
  refine (st_carry (S4.out.alloc _) (one_int _ 3) (fun k hk => by cases hk; exact ⟨by simp, fun hf => absurd (S4.out.lt _ hf) (Nat.lt_irrefl _)⟩) (fun h hh => by rw [aw4s h hh]; simp) aw4c).mono ?_
  rintro e w6 ⟨rfl, fp6, s5, _, _⟩
  have S5 := Lib.hid s5
  clear s5 S4
  go_wp2_with fail
  refine (st_unref (S5.out.alloc _) (one_int _ 2) (fun k hk => by cases hk; exact ⟨by simp, fun hf => absurd (S5.out.lt _ hf) (Nat.lt_irrefl _)⟩) (by rw [aw5w]; simp) aw5u).mono ?_
  rintro e w7 ⟨v, rfl, hr, _, s6, _⟩
  have S6 := Lib.hid s6
  have hc : ∃ g off c, v = .slice (some ⟨g, off, none⟩) 3 c ∧ w7.cell? ⟨g, off, none⟩ = some (.int .i64 2) ∧ w7.cell? ⟨g, off + 3 + 2, none⟩ = some (.int .i64 4) ∧ w7.cell? ⟨g, off + 6, none⟩ = some (.int .i64 3) := by
    rcases hr.2 with ⟨_, h⟩ | ⟨g, off, cap, cur, rfl, _⟩
    · cases h
    · exact ⟨g, off, cap, rfl, hr.cells 0 _ rfl, hr.cells 5 _ rfl, hr.cells 6 _ rfl⟩
  obtain ⟨g, off, c, rfl, h1, h2, h3⟩ := hc
  have Hcnt := Lib.hid (st_count S6.out)
  rw [aw6c] at Hcnt
  clear s6 hr S5
  go_wp2_with (go_at_call 12; refine Hcnt.out.mono ?_; rintro e w8 ⟨rfl, rfl⟩)
  go_ret
  exact ⟨rfl, S6.out.mods⟩
end Go.Proofs.YtkifgoadbnpofaaDoor
