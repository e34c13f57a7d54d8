/- Laws of the pool of frames (layer 7), without memory: a pool whose frames have so many users each. -/
import Derived.Test.YtkifgoadbnpofaaPoolE
namespace Go.Proofs.Ytkifgoadbnpofaa
open Go Go.RowKit

/-- One user more of g; one fewer. -/
def bump (R : Int → Nat) (g : Int) : Int → Nat := fun f => if f = g then R f + 1 else R f
def less (R : Int → Nat) (g : Int) : Int → Nat := fun f => if f = g then R f - 1 else R f
def Pool.dat (q : Pool) (f : Int) : List Int := ((q.frames[f.toNat]?).map (·.data)).getD []

structure PInv (q : Pool) (R : Int → Nat) : Prop where
  cap0 : 0 ≤ q.cap
  cap1 : q.cap ≤ 65536
  len : (q.frames.length : Int) ≤ q.cap
  used : q.used = ((q.frames.countP (fun x => x.users != 0) : Nat) : Int)
  users : ∀ (k : Nat) x, q.frames[k]? = some x → x.users = ((R k : Nat) : Int)
  dom : ∀ f : Int, 0 < R f → 0 ≤ f ∧ f.toNat < q.frames.length
  wf : ∀ x ∈ q.frames, x.data.length = 64

theorem w64 {n : Int} (h0 : -9223372036854775808 ≤ n) (h1 : n ≤ 9223372036854775807) : wrap64 n = n := by unfold wrap64; omega
theorem zeros_len (n : Nat) : (zeros n).length = n := by simp [zeros]

section
variable {q : Pool} {R : Int → Nat}
theorem PInv.lens (I : PInv q R) : q.frames.length ≤ 65536 := by have := I.len; have := I.cap1; omega
theorem PInv.used_le (I : PInv q R) : 0 ≤ q.used ∧ q.used ≤ q.frames.length := by
  have := List.countP_le_length (p := fun x : Frm => x.users != 0) (l := q.frames)
  rw [I.used]; omega
theorem PInv.at_ (I : PInv q R) {f : Int} (h : 0 < R f) : ∃ x, q.at_ f = some x ∧ q.frames[f.toNat]? = some x ∧ x.users = (R f : Nat) ∧ x.data = q.dat f := by
  obtain ⟨h0, h1⟩ := I.dom f h
  have hx := List.getElem?_eq_getElem h1
  have hu := I.users _ _ hx
  rw [Int.toNat_of_nonneg h0] at hu
  refine ⟨_, ?_, hx, hu, by simp [Pool.dat, hx]⟩
  have := Pool.at_of hx (by omega)
  rw [Int.toNat_of_nonneg h0] at this
  exact this
theorem PInv.none (I : PInv q R) {f : Int} (h : R f = 0) : q.at_ f = none := by
  unfold Pool.at_
  split
  · rfl
  · rename_i h0
    cases hx : q.frames[f.toNat]? with
    | none => rfl
    | some x =>
      have hu := I.users _ _ hx
      rw [Int.toNat_of_nonneg (by omega), h] at hu
      simp [hu]
theorem PInv.users_eq (I : PInv q R) (f : Int) : q.users f = (R f : Nat) := by
  unfold Pool.users
  by_cases h : 0 < R f
  · obtain ⟨x, hx, _, hu, _⟩ := I.at_ h
    simp [hx, hu]
  · rw [I.none (by omega), show R f = 0 by omega]; rfl
theorem PInv.dat_len (I : PInv q R) {f : Int} (h : 0 < R f) : (q.dat f).length = 64 := by
  obtain ⟨x, _, hx, _, hd⟩ := I.at_ h
  rw [← hd]
  exact I.wf x (List.mem_of_getElem? hx)
theorem PInv.of_eq (I : PInv q R) {R' : Int → Nat} (h : ∀ f, R f = R' f) : PInv q R' := by
  rw [show R' = R from funext fun f => (h f).symm]; exact I

theorem PInv.alloc (I : PInv q R) (h : q.used < q.cap) : ∃ g : Nat, q.alloc.2 = ((g : Int), 0) ∧ R g = 0 ∧ PInv q.alloc.1 (bump R g) ∧ q.alloc.1.cap = q.cap ∧ q.alloc.1.used = q.used + 1 ∧
    q.alloc.1.dat g = zeros 64 ∧ ∀ f : Int, 0 ≤ f → f ≠ g → q.alloc.1.dat f = q.dat f := by
  have hu := I.used_le
  have hl := I.lens
  unfold Pool.alloc
  rw [if_neg (by omega)]
  by_cases hneg : Pool.free q.frames < 0
  · rw [if_pos hneg]
    have hall : q.frames.countP (fun x => x.users != 0) = q.frames.length := by
      rw [List.countP_eq_length]
      intro x hx
      unfold Pool.free at hneg
      split at hneg
      · omega
      · rename_i ha
        simp only [List.any_eq_true, not_exists, not_and] at ha
        have := ha x hx
        simpa using this
    have hR : R (q.frames.length : Int) = 0 := by
      have := I.dom (q.frames.length : Int)
      simp at this
      omega
    have huse := I.used
    rw [hall] at huse
    refine ⟨q.frames.length, rfl, hR, ⟨I.cap0, I.cap1, by simp; omega, ?_, ?_, ?_, ?_⟩, rfl, w64 (by omega) (by omega), by simp [Pool.dat, fresh], ?_⟩
    · simp only [List.countP_append, hall, huse]
      rw [w64 (by omega) (by omega)]
      simp [fresh]
    · intro k x hx
      simp only at hx
      by_cases hk : k < q.frames.length
      · rw [List.getElem?_append_left hk] at hx
        rw [I.users k x hx]
        unfold bump
        rw [if_neg (by omega)]
      · have := (List.getElem?_eq_some_iff.1 hx).1
        simp at this
        have hk : k = q.frames.length := by omega
        subst hk
        simp at hx
        subst hx
        simp [bump, hR, fresh]
    · intro f hf
      unfold bump at hf
      simp only [List.length_append, List.length_cons, List.length_nil]
      split at hf
      · rename_i e; subst e; simp
      · have := I.dom f hf; omega
    · intro x hx
      simp only [List.mem_append, List.mem_singleton] at hx
      rcases hx with hx | rfl
      · exact I.wf x hx
      · simp [fresh, zeros]
    · intro f h0 hf
      unfold Pool.dat
      simp only
      by_cases hk : f.toNat < q.frames.length
      · rw [List.getElem?_append_left hk]
      · rw [List.getElem?_eq_none (by simp; omega), List.getElem?_eq_none (by omega)]
  · rw [if_neg hneg]
    obtain ⟨k, hk⟩ : ∃ k : Nat, Pool.free q.frames = k := ⟨(Pool.free q.frames).toNat, by omega⟩
    have hlt := Pool.free_lt hk
    obtain ⟨y, hy, hyu⟩ := Pool.free_free hk
    have hR : R (k : Int) = 0 := by
      have := I.users k y hy
      omega
    rw [hk]
    simp only [Int.toNat_natCast]
    have hyk : q.frames[k] = y := by rw [List.getElem?_eq_getElem hlt] at hy; exact Option.some.inj hy
    refine ⟨k, rfl, hR, ⟨I.cap0, I.cap1, by simpa using I.len, ?_, ?_, ?_, ?_⟩, by first | trivial | rfl, w64 (by omega) (by omega), by simp [Pool.dat, fresh, hlt], ?_⟩
    · simp only [List.countP_set hlt, hyk, hyu, I.used]
      have h1 := List.countP_le_length (p := fun x : Frm => x.users != 0) (l := q.frames)
      rw [w64 (by omega) (by omega)]
      simp [fresh]
    · intro j x hx
      simp only at hx
      by_cases hj : j = k
      · subst hj
        rw [List.getElem?_set_self hlt] at hx
        cases hx
        simp [bump, hR, fresh]
      · rw [List.getElem?_set_ne (Ne.symm hj)] at hx
        rw [I.users j x hx]
        unfold bump
        rw [if_neg (by omega)]
    · intro f hf
      unfold bump at hf
      simp only [List.length_set]
      split at hf
      · rename_i e; subst e; simp; omega
      · exact I.dom f hf
    · intro x hx
      rcases List.mem_or_eq_of_mem_set hx with hx | rfl
      · exact I.wf x hx
      · simp [fresh, zeros]
    · intro f h0 hf
      unfold Pool.dat
      simp only
      rw [List.getElem?_set_ne (by omega)]

theorem PInv.share (I : PInv q R) {f : Int} (h : 0 < R f) (hb : R f ≤ 4611686018427387904) : (q.share f).2 = 0 ∧ PInv (q.share f).1 (bump R f) ∧ (q.share f).1.cap = q.cap ∧ (q.share f).1.used = q.used ∧ ∀ h, (q.share f).1.dat h = q.dat h := by
  obtain ⟨x, hx, hk, hu, hd⟩ := I.at_ h
  obtain ⟨h0, hlt⟩ := I.dom f h
  have hw : wrap64 (x.users + 1) = x.users + 1 := w64 (by omega) (by omega)
  have hxk : q.frames[f.toNat] = x := by rw [List.getElem?_eq_getElem hlt] at hk; exact Option.some.inj hk
  unfold Pool.share
  rw [hx]
  simp only [hw, Pool.set]
  refine ⟨trivial, ⟨I.cap0, I.cap1, by simpa using I.len, ?_, ?_, ?_, ?_⟩, trivial, trivial, ?_⟩
  · simp only [List.countP_set hlt, hxk, I.used]
    have h1 : (x.users != 0) = true := by simp; omega
    have h2 : (x.users + 1 != 0) = true := by simp; omega
    have : 0 < q.frames.countP (fun x => x.users != 0) := List.countP_pos_iff.2 ⟨x, List.mem_of_getElem? hk, h1⟩
    simp only [h1, h2, if_true]
    omega
  · intro j y hy
    simp only at hy
    by_cases hj : j = f.toNat
    · subst hj
      rw [List.getElem?_set_self hlt] at hy
      cases hy
      simp [bump, Int.toNat_of_nonneg h0, hu]
    · rw [List.getElem?_set_ne (Ne.symm hj)] at hy
      rw [I.users j y hy]
      unfold bump
      rw [if_neg (by omega)]
  · intro g hg
    unfold bump at hg
    simp only [List.length_set]
    split at hg
    · rename_i e; subst e; exact ⟨h0, hlt⟩
    · exact I.dom g hg
  · intro y hy
    rcases List.mem_or_eq_of_mem_set hy with hy | rfl
    · exact I.wf y hy
    · exact I.wf x (List.mem_of_getElem? hk)
  · intro g
    unfold Pool.dat
    simp only
    by_cases e : g.toNat = f.toNat
    · rw [e, List.getElem?_set_self hlt, hk]; rfl
    · rw [List.getElem?_set_ne (fun h => e h.symm)]

theorem PInv.release (I : PInv q R) {f : Int} (h : 0 < R f) (hb : R f ≤ 4611686018427387904) : (q.release f).2 = 0 ∧ PInv (q.release f).1 (less R f) ∧ (q.release f).1.cap = q.cap ∧
    (q.release f).1.used = q.used - (if R f = 1 then 1 else 0) ∧ ∀ h, (q.release f).1.dat h = q.dat h := by
  obtain ⟨x, hx, hk, hu, hd⟩ := I.at_ h
  obtain ⟨h0, hlt⟩ := I.dom f h
  have hxk : q.frames[f.toNat] = x := by rw [List.getElem?_eq_getElem hlt] at hk; exact Option.some.inj hk
  have h1 : (x.users != 0) = true := by simp; omega
  have hpos : 0 < q.frames.countP (fun x => x.users != 0) := List.countP_pos_iff.2 ⟨x, List.mem_of_getElem? hk, h1⟩
  have hul := I.used_le
  have hl := I.lens
  have hused := I.used
  have hw : wrap64 (x.users - 1) = x.users - 1 := w64 (by omega) (by omega)
  have hwu : wrap64 (q.used - 1) = q.used - 1 := w64 (by omega) (by omega)
  have key : ∀ u : Int, u = ((R f - 1 : Nat) : Int) → ∀ (y : Frm), y = { x with users := u } →
      (∀ (j : Nat) z, (q.frames.set f.toNat y)[j]? = some z → z.users = ((less R f j : Nat) : Int)) ∧ (∀ g : Int, 0 < less R f g → 0 ≤ g ∧ g.toNat < (q.frames.set f.toNat y).length) ∧
      (∀ z ∈ q.frames.set f.toNat y, z.data.length = 64) ∧ (∀ g : Int, (((q.frames.set f.toNat y)[g.toNat]?).map (·.data)).getD [] = q.dat g) := by
    intro u hu' y hy
    subst hy
    refine ⟨?_, ?_, ?_, ?_⟩
    · intro j z hz
      by_cases hj : j = f.toNat
      · subst hj
        rw [List.getElem?_set_self hlt] at hz
        cases hz
        simp [less, Int.toNat_of_nonneg h0, hu']
      · rw [List.getElem?_set_ne (Ne.symm hj)] at hz
        rw [I.users j z hz]
        unfold less
        rw [if_neg (by omega)]
    · intro g hg
      simp only [List.length_set]
      refine I.dom g ?_
      unfold less at hg
      split at hg <;> omega
    · intro z hz
      rcases List.mem_or_eq_of_mem_set hz with hz | rfl
      · exact I.wf z hz
      · exact I.wf x (List.mem_of_getElem? hk)
    · intro g
      unfold Pool.dat
      by_cases e : g.toNat = f.toNat
      · rw [e, List.getElem?_set_self hlt, hk]; rfl
      · rw [List.getElem?_set_ne (fun h => e h.symm)]
  unfold Pool.release
  rw [hx]
  simp only [hw, hwu, Pool.set]
  by_cases hz : x.users - 1 = 0
  · rw [if_pos hz, if_pos (by omega)]
    obtain ⟨k1, k2, k3, k4⟩ := key 0 (by omega) { x with users := 0 } rfl
    refine ⟨rfl, ⟨I.cap0, I.cap1, by simpa using I.len, ?_, k1, k2, k3⟩, rfl, rfl, k4⟩
    simp only [List.countP_set hlt, hxk, h1, if_true]
    simp
    omega
  · rw [if_neg hz, if_neg (by omega)]
    obtain ⟨k1, k2, k3, k4⟩ := key (x.users - 1) (by omega) { x with users := x.users - 1 } rfl
    refine ⟨rfl, ⟨I.cap0, I.cap1, by simpa using I.len, ?_, k1, k2, k3⟩, rfl, by simp, k4⟩
    have h2 : (x.users - 1 != 0) = true := by simpa using hz
    simp only [List.countP_set hlt, hxk, h1, h2, if_true]
    omega

theorem PInv.own (I : PInv q R) {f : Int} (h : 0 < R f) (hb : R f ≤ 4611686018427387904) (hroom : R f = 1 ∨ q.used < q.cap) :
    (R f = 1 ∧ q.own f = (q, f, 0)) ∨ (1 < R f ∧ ∃ g : Nat, (q.own f).2 = ((g : Int), 0) ∧ R g = 0 ∧ PInv (q.own f).1 (less (bump R g) f) ∧ (q.own f).1.cap = q.cap ∧ (q.own f).1.used = q.used + 1 ∧
      (q.own f).1.dat g = q.dat f ∧ ∀ h : Int, 0 ≤ h → h ≠ g → (q.own f).1.dat h = q.dat h) := by
  obtain ⟨x, hx, hk, hu, hd⟩ := I.at_ h
  by_cases h1 : R f = 1
  · left
    refine ⟨h1, ?_⟩
    unfold Pool.own
    rw [hx]
    simp [hu, h1]
  · right
    have hlt1 : q.used < q.cap := by rcases hroom with h | h; exact absurd h h1; exact h
    obtain ⟨g, e, hg0, I', hc, hus, hz, hsame⟩ := I.alloc hlt1
    have hne : f ≠ g := by rintro rfl; omega
    have e1 : q.alloc.2.1 = (g : Int) := by rw [e]
    have e2 : q.alloc.2.2 = 0 := by rw [e]
    obtain ⟨h0, hlt⟩ := I.dom f h
    have hown : q.own f = ({ q.alloc.1 with frames := (q.alloc.1.frames.set g ⟨x.data, 1⟩).set f.toNat { x with users := wrap64 (x.users - 1) } }, (g : Int), 0) := by
      unfold Pool.own
      rw [hx]
      simp only
      rw [if_neg (by omega), if_neg (by simp [e2]), e1]
      simp
    rw [hown]
    generalize q.alloc.1 = Q at *
    have hbf : bump R g f = R f := by simp [bump, hne]
    have hbg : bump R g g = 1 := by simp [bump, hg0]
    obtain ⟨xf, _, hkf, huf, hdf⟩ := I'.at_ (f := f) (by omega)
    obtain ⟨xg, _, hkg, hug, hdg⟩ := I'.at_ (f := (g : Int)) (by omega)
    rw [hbf] at huf
    rw [hbg] at hug
    simp only [Int.toNat_natCast] at hkg
    obtain ⟨_, hltf⟩ := I'.dom f (by omega)
    obtain ⟨_, hltg⟩ := I'.dom (g : Int) (by omega)
    simp only [Int.toNat_natCast] at hltg
    have hw : wrap64 (x.users - 1) = x.users - 1 := w64 (by omega) (by omega)
    have hfg : f.toNat ≠ g := by omega
    have hxl := I.wf x (List.mem_of_getElem? hk)
    refine ⟨by omega, g, rfl, hg0, ⟨by rw [hc]; exact I.cap0, by rw [hc]; exact I.cap1, by simpa using I'.len, ?_, ?_, ?_, ?_⟩, hc, hus, ?_, ?_⟩
    · simp only
      rw [I'.used, List.countP_set (by simpa using hltf), List.countP_set hltg]
      rw [List.getElem_set_ne (fun h => hfg h.symm)]
      have eg : Q.frames[g] = xg := by rw [List.getElem?_eq_getElem hltg] at hkg; exact Option.some.inj hkg
      have ef : Q.frames[f.toNat] = xf := by rw [List.getElem?_eq_getElem hltf] at hkf; exact Option.some.inj hkf
      have b1 : (xg.users != 0) = true := by simp; omega
      have b2 : (xf.users != 0) = true := by simp; omega
      have b3 : (x.users - 1 != 0) = true := by simp; omega
      have p1 : 0 < Q.frames.countP (fun x => x.users != 0) := List.countP_pos_iff.2 ⟨xg, List.mem_of_getElem? hkg, b1⟩
      rw [eg, ef, hw]
      simp only [b1, b2, b3, if_true]
      simp
      omega
    · intro j z hz
      simp only at hz
      by_cases hj : j = f.toNat
      · subst hj
        rw [List.getElem?_set_self (by simpa using hltf)] at hz
        cases hz
        simp only [less, Int.toNat_of_nonneg h0, if_true, hbf, hw]
        omega
      · rw [List.getElem?_set_ne (Ne.symm hj)] at hz
        unfold less
        rw [if_neg (by omega)]
        by_cases hjg : j = g
        · subst hjg
          rw [List.getElem?_set_self hltg] at hz
          cases hz
          simp [hbg]
        · rw [List.getElem?_set_ne (Ne.symm hjg)] at hz
          exact I'.users j z hz
    · intro k hk
      simp only [List.length_set]
      refine I'.dom k ?_
      unfold less at hk
      split at hk <;> omega
    · intro z hz
      rcases List.mem_or_eq_of_mem_set hz with hz | rfl
      · rcases List.mem_or_eq_of_mem_set hz with hz | rfl
        · exact I'.wf z hz
        · exact hxl
      · exact hxl
    · unfold Pool.dat
      simp only [Int.toNat_natCast]
      rw [List.getElem?_set_ne hfg, List.getElem?_set_self hltg, hk]
      rfl
    · intro k hk0 hkg'
      have := hsame k hk0 hkg'
      rw [← this]
      unfold Pool.dat
      simp only
      by_cases e : k.toNat = f.toNat
      · have : k = f := by omega
        subst this
        rw [List.getElem?_set_self (by simpa using hltf), hkf]
        simp only [Option.map_some, Option.getD_some]
        rw [hd, hdf]
        exact this.symm
      · rw [List.getElem?_set_ne (fun h => e h.symm), List.getElem?_set_ne (by omega)]

theorem PInv.write (I : PInv q R) {f a : Int} (h : R f = 1) {l : List Int} (ha : inside a l.length 64 = true) :
    (q.write f a l).2 = 0 ∧ PInv (q.write f a l).1 R ∧ (q.write f a l).1.cap = q.cap ∧ (q.write f a l).1.used = q.used ∧
    (q.write f a l).1.dat f = (q.dat f).take a.toNat ++ l ++ (q.dat f).drop (a.toNat + l.length) ∧ ∀ h : Int, 0 ≤ h → h ≠ f → (q.write f a l).1.dat h = q.dat h := by
  obtain ⟨x, hx, hk, hu, hd⟩ := I.at_ (f := f) (by omega)
  obtain ⟨h0, hlt⟩ := I.dom f (by omega)
  have hxk : q.frames[f.toNat] = x := by rw [List.getElem?_eq_getElem hlt] at hk; exact Option.some.inj hk
  have hxl := I.wf x (List.mem_of_getElem? hk)
  have ha' := ha
  simp only [inside, decide_eq_true_eq] at ha'
  unfold Pool.write
  rw [hx]
  simp only [ha, if_true]
  rw [if_neg (by omega)]
  simp only [Pool.set]
  refine ⟨trivial, ⟨I.cap0, I.cap1, by simpa using I.len, ?_, ?_, ?_, ?_⟩, trivial, trivial, ?_, ?_⟩
  · simp only [List.countP_set hlt, hxk, I.used]
    have h1 : (x.users != 0) = true := by simp; omega
    have : 0 < q.frames.countP (fun x => x.users != 0) := List.countP_pos_iff.2 ⟨x, List.mem_of_getElem? hk, h1⟩
    simp only [h1, if_true]
    omega
  · intro j z hz
    simp only at hz
    by_cases hj : j = f.toNat
    · subst hj
      rw [List.getElem?_set_self hlt] at hz
      cases hz
      exact (I.users _ x hk : x.users = _)
    · rw [List.getElem?_set_ne (Ne.symm hj)] at hz
      exact I.users j z hz
  · intro g hg
    simp only [List.length_set]
    exact I.dom g hg
  · intro z hz
    rcases List.mem_or_eq_of_mem_set hz with hz | rfl
    · exact I.wf z hz
    · simp; omega
  · unfold Pool.dat
    simp only
    rw [List.getElem?_set_self hlt, hk]
    rfl
  · intro k hk0 hkf
    unfold Pool.dat
    simp only
    rw [List.getElem?_set_ne (by omega)]
end
end Go.Proofs.Ytkifgoadbnpofaa
