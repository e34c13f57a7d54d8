/- Laws of layer 8, without memory: an object's frames beside a pool; bytes. -/
import Derived.Test.YtkifgoadbnpofaaPoolLaw
import Derived.Test.YtkifgoadbnpofaaVmoPure
namespace Go.Proofs.Ytkifgoadbnpofaa
open Go Go.RowKit

/-- How often a frame stands among an object's. -/
def cnt (fr : List (Int × Int)) (f : Int) : Nat := fr.countP (fun p => p.2 == f)
/-- The bytes of a page. -/
def pg (q : Pool) (fr : List (Int × Int)) (p : Int) : List Int := match get fr p with
  | none => zeros 64
  | some f => q.dat f
def byteAt (q : Pool) (fr : List (Int × Int)) (a : Int) : Int := (pg q fr (a / 64)).getD (a % 64).toNat 0

theorem cnt_put_none {fr : List (Int × Int)} {p : Int} (h : get fr p = none) (f x : Int) : cnt (put fr p f) x = cnt fr x + (if x = f then 1 else 0) := by
  rw [put_of_none _ _ _ h]
  unfold cnt
  rw [List.countP_append]
  by_cases e : x = f
  · simp [e]
  · have : ¬ f = x := fun h => e h.symm
    simp [e, this]
theorem cnt_put_some {fr : List (Int × Int)} {p f0 : Int} (h : get fr p = some f0) (f x : Int) : cnt (put fr p f) x + (if x = f0 then 1 else 0) = cnt fr x + (if x = f then 1 else 0) := by
  induction fr with
  | nil => simp [get] at h
  | cons a r ih =>
    obtain ⟨k, v⟩ := a
    by_cases e : k = p
    · simp [get, e] at h
      subst h
      simp only [put, if_pos e, cnt, List.countP_cons]
      by_cases e1 : x = v <;> by_cases e2 : x = f <;> simp [e1, e2] <;> (try split) <;> (try split) <;> omega
    · simp [get, e] at h
      have := ih h
      simp only [put, if_neg e, cnt, List.countP_cons] at this ⊢
      omega
theorem cnt_del {fr : List (Int × Int)} {p f0 : Int} (h : get fr p = some f0) (x : Int) : cnt (del fr p) x + (if x = f0 then 1 else 0) = cnt fr x := by
  induction fr with
  | nil => simp [get] at h
  | cons a r ih =>
    obtain ⟨k, v⟩ := a
    by_cases e : k = p
    · simp [get, e] at h
      subst h
      simp only [del, if_pos e, cnt, List.countP_cons]
      by_cases e1 : x = v
      · simp [e1]
      · have : ¬ v = x := fun h => e1 h.symm
        simp [e1, this]
    · simp [get, e] at h
      have := ih h
      simp only [del, if_neg e, cnt, List.countP_cons] at this ⊢
      omega
theorem cnt_pos {fr : List (Int × Int)} {p f : Int} (h : get fr p = some f) : 0 < cnt fr f :=
  List.countP_pos_iff.2 ⟨(p, f), get_mem h, by simp⟩

/-- A pool, an object's frames, and how often others use each frame. -/
structure CInv (q : Pool) (Ro : Int → Nat) (fr : List (Int × Int)) : Prop where
  inv : PInv q (fun f => Ro f + cnt fr f)
  nd : (fr.map (·.1)).Nodup
  small : ∀ f, Ro f + cnt fr f ≤ 4611686018427387904

section
variable {q : Pool} {Ro : Int → Nat} {fr : List (Int × Int)}
theorem CInv.needs_iff (C : CInv q Ro fr) (p : Int) : needs q fr p = match get fr p with
    | none => true
    | some f => decide (1 < Ro f + cnt fr f) := by
  unfold needs
  cases h : get fr p with
  | none => rfl
  | some f =>
    simp only
    rw [C.inv.users_eq]
    simp
    omega
theorem CInv.own_page (C : CInv q Ro fr) {p : Int} (h : needs q fr p = false) : ∃ f, get fr p = some f ∧ Ro f + cnt fr f = 1 ∧ 0 ≤ f := by
  rw [C.needs_iff] at h
  cases hg : get fr p with
  | none => rw [hg] at h; cases h
  | some f =>
    rw [hg] at h
    simp at h
    have := cnt_pos hg
    exact ⟨f, rfl, by omega, (C.inv.dom f (by show 0 < Ro f + cnt fr f; omega)).1⟩

structure Step (q : Pool) (Ro : Int → Nat) (fr : List (Int × Int)) (q' : Pool) (fr' : List (Int × Int)) : Prop where
  inv : CInv q' Ro fr'
  cap : q'.cap = q.cap
  mono : ∀ p, needs q' fr' p = true → needs q fr p = true
  page : ∀ p, pg q' fr' p = pg q fr p
  other : ∀ f, 0 < Ro f → q'.dat f = q.dat f
theorem Step.refl (C : CInv q Ro fr) : Step q Ro fr q fr := ⟨C, rfl, fun _ h => h, fun _ => rfl, fun _ _ => rfl⟩
theorem Step.trans {q' q'' : Pool} {fr' fr'' : List (Int × Int)} (h : Step q Ro fr q' fr') (k : Step q' Ro fr' q'' fr'') : Step q Ro fr q'' fr'' :=
  ⟨k.inv, k.cap.trans h.cap, fun p hp => h.mono p (k.mono p hp), fun p => (k.page p).trans (h.page p), fun f hf => (k.other f hf).trans (h.other f hf)⟩

theorem CInv.commit1 (C : CInv q Ro fr) (p : Int) (hroom : needs q fr p = true → q.used < q.cap) :
    Step q Ro fr (commit1 (q, fr) p).1 (commit1 (q, fr) p).2 ∧ (commit1 (q, fr) p).1.used = q.used + (if needs q fr p then 1 else 0) ∧ needs (commit1 (q, fr) p).1 (commit1 (q, fr) p).2 p = false ∧
    ∀ x, (get (commit1 (q, fr) p).2 x).isSome = ((get fr x).isSome || decide (p = x)) := by
  have hni := C.needs_iff p
  have I := C.inv
  cases hg : get fr p with
  | none =>
    rw [hg] at hni
    simp only at hni
    have e : Go.Proofs.Ytkifgoadbnpofaa.commit1 (q, fr) p = (q.alloc.1, put fr p q.alloc.2.1) := by simp [Go.Proofs.Ytkifgoadbnpofaa.commit1, hg]
    obtain ⟨g, he, hg0, I', hcap, hused, hz, hsame⟩ := I.alloc (hroom hni)
    have e1 : q.alloc.2.1 = (g : Int) := by rw [he]
    rw [e, e1]
    simp only
    generalize q.alloc.1 = Q at *
    have hR : ∀ f, bump (fun f => Ro f + cnt fr f) g f = Ro f + cnt (put fr p g) f := by
      intro f
      rw [cnt_put_none hg]
      show (if f = (g : Int) then (Ro f + cnt fr f) + 1 else Ro f + cnt fr f) = _
      split <;> omega
    have C' : CInv Q Ro (put fr p g) := ⟨I'.of_eq hR, nodup_put C.nd _ _, fun f => by
      rw [cnt_put_none hg]
      split
      · rename_i ef; subst ef; have : Ro (g : Int) + cnt fr (g : Int) = 0 := hg0; omega
      · exact C.small f⟩
    have hother : ∀ f, 0 < Ro f + cnt fr f → Q.dat f = q.dat f := fun f hf => hsame f (I.dom f hf).1 (by rintro rfl; have : 0 < Ro (g : Int) + cnt fr (g : Int) := hf; have : Ro (g : Int) + cnt fr (g : Int) = 0 := hg0; omega)
    refine ⟨⟨C', hcap, ?_, ?_, fun f hf => hother f (by omega)⟩, by rw [hused, hni]; rfl, ?_, ?_⟩
    · intro x hx
      rw [C'.needs_iff, get_put] at hx
      rw [C.needs_iff]
      by_cases ex : p = x
      · subst ex; rw [hg]
      · rw [if_neg ex] at hx
        cases hgx : get fr x with
        | none => rfl
        | some f =>
          rw [hgx] at hx
          simp only [decide_eq_true_eq] at hx ⊢
          rw [cnt_put_none hg] at hx
          have := cnt_pos hgx
          have hne : f ≠ g := by rintro rfl; have : Ro (g : Int) + cnt fr (g : Int) = 0 := hg0; omega
          rw [if_neg hne] at hx
          exact hx
    · intro x
      unfold pg
      rw [get_put]
      by_cases ex : p = x
      · subst ex; rw [if_pos rfl, hg]; exact hz
      · rw [if_neg ex]
        cases hgx : get fr x with
        | none => rfl
        | some f =>
          have := cnt_pos hgx
          exact hother f (by omega)
    · rw [C'.needs_iff, get_put, if_pos rfl]
      simp only [decide_eq_false_iff_not]
      rw [cnt_put_none hg, if_pos rfl]
      have : Ro (g : Int) + cnt fr (g : Int) = 0 := hg0
      omega
    · intro x
      rw [get_put]
      by_cases ex : p = x <;> simp [ex]
  | some f =>
    rw [hg] at hni
    simp only at hni
    have hpos := cnt_pos hg
    have e : Go.Proofs.Ytkifgoadbnpofaa.commit1 (q, fr) p = ((q.own f).1, put fr p (q.own f).2.1) := by simp [Go.Proofs.Ytkifgoadbnpofaa.commit1, hg]
    have hr : Ro f + cnt fr f = 1 ∨ q.used < q.cap := by
      by_cases h1 : Ro f + cnt fr f = 1
      · exact .inl h1
      · exact .inr (hroom (by rw [hni]; simp; omega))
    rcases I.own (f := f) (by show 0 < Ro f + cnt fr f; omega) (C.small f) hr with ⟨h1, ho⟩ | ⟨h1, g, ho, hg0, I', hcap, hused, hd, hsame⟩
    · have h1 : Ro f + cnt fr f = 1 := h1
      have hn : needs q fr p = false := by rw [hni]; simp; omega
      rw [e, ho]
      simp only
      rw [put_same hg]
      refine ⟨Step.refl C, by rw [hn]; simp, hn, fun x => ?_⟩
      by_cases ex : p = x
      · subst ex; simp [hg]
      · simp [ex]
    · have h1 : 1 < Ro f + cnt fr f := h1
      have hg0 : Ro (g : Int) + cnt fr (g : Int) = 0 := hg0
      have hn : needs q fr p = true := by rw [hni]; simp; omega
      have e1 : (q.own f).2.1 = (g : Int) := by rw [ho]
      rw [e, e1]
      simp only
      generalize (q.own f).1 = Q at *
      have hfg : f ≠ g := by rintro rfl; omega
      have hcp := cnt_put_some hg (g : Int)
      have hR : ∀ x, less (bump (fun f => Ro f + cnt fr f) g) f x = Ro x + cnt (put fr p g) x := by
        intro x
        have := hcp x
        unfold less bump
        by_cases e1 : x = f
        · subst e1
          simp only [if_true, if_neg hfg] at this ⊢
          omega
        · by_cases e2 : x = g
          · subst e2
            simp only [if_true, if_neg e1] at this ⊢
            omega
          · simp only [if_neg e1, if_neg e2] at this ⊢
            omega
      have C' : CInv Q Ro (put fr p g) := ⟨I'.of_eq hR, nodup_put C.nd _ _, fun x => by
        have h1 := hcp x
        have h2 := C.small x
        by_cases e2 : x = g
        · subst e2; rw [if_pos rfl] at h1; split at h1 <;> omega
        · rw [if_neg e2] at h1; split at h1 <;> omega⟩
      have hother : ∀ f, 0 < Ro f + cnt fr f → Q.dat f = q.dat f := fun f hf => hsame f (I.dom f hf).1 (by rintro rfl; omega)
      refine ⟨⟨C', hcap, ?_, ?_, fun f hf => hother f (by omega)⟩, by rw [hused, hn]; rfl, ?_, ?_⟩
      · intro x hx
        rw [C'.needs_iff, get_put] at hx
        rw [C.needs_iff]
        by_cases ex : p = x
        · subst ex; rw [hg]; simpa using h1
        · rw [if_neg ex] at hx
          cases hgx : get fr x with
          | none => rfl
          | some k =>
            rw [hgx] at hx
            simp only [decide_eq_true_eq] at hx ⊢
            have h3 := hcp k
            have := cnt_pos hgx
            have hne : k ≠ g := by rintro rfl; omega
            rw [if_neg hne] at h3
            split at h3 <;> omega
      · intro x
        unfold pg
        rw [get_put]
        by_cases ex : p = x
        · subst ex; rw [if_pos rfl, hg]; exact hd
        · rw [if_neg ex]
          cases hgx : get fr x with
          | none => rfl
          | some k =>
            have := cnt_pos hgx
            exact hother k (by omega)
      · rw [C'.needs_iff, get_put, if_pos rfl]
        simp only [decide_eq_false_iff_not]
        have h3 := hcp g
        rw [if_pos rfl, if_neg (fun h => hfg h.symm)] at h3
        omega
      · intro x
        rw [get_put]
        by_cases ex : p = x
        · subst ex; simp
        · simp [ex]

/-- All pages of a list get frames of their own, if there is room. -/
theorem CInv.commits : ∀ (list : List Int) {q : Pool} {fr : List (Int × Int)}, CInv q Ro fr → q.used + ((list.countP (needs q fr) : Nat) : Int) ≤ q.cap →
    Step q Ro fr (list.foldl Go.Proofs.Ytkifgoadbnpofaa.commit1 (q, fr)).1 (list.foldl Go.Proofs.Ytkifgoadbnpofaa.commit1 (q, fr)).2 ∧
    q.used ≤ (list.foldl Go.Proofs.Ytkifgoadbnpofaa.commit1 (q, fr)).1.used ∧ (list.foldl Go.Proofs.Ytkifgoadbnpofaa.commit1 (q, fr)).1.used ≤ q.used + ((list.countP (needs q fr) : Nat) : Int) ∧
    (∀ p ∈ list, needs (list.foldl Go.Proofs.Ytkifgoadbnpofaa.commit1 (q, fr)).1 (list.foldl Go.Proofs.Ytkifgoadbnpofaa.commit1 (q, fr)).2 p = false) ∧
    ∀ x, (get (list.foldl Go.Proofs.Ytkifgoadbnpofaa.commit1 (q, fr)).2 x).isSome = ((get fr x).isSome || decide (x ∈ list))
  | [], q, fr, C, _ => ⟨Step.refl C, Int.le_refl _, by simp, by simp, by simp⟩
  | p :: r, q, fr, C, h => by
    simp only [List.foldl_cons]
    rw [List.countP_cons] at h
    obtain ⟨S1, u1, n1, k1⟩ := C.commit1 p (fun hn => by rw [hn] at h; simp at h; omega)
    generalize hst : Go.Proofs.Ytkifgoadbnpofaa.commit1 (q, fr) p = st at *
    obtain ⟨q1, fr1⟩ := st
    simp only at S1 u1 n1 k1
    have hle : r.countP (needs q1 fr1) ≤ r.countP (needs q fr) := List.countP_mono_left (fun x _ hx => S1.mono x hx)
    have hcap := S1.cap
    obtain ⟨S2, l2, u2, n2, k2⟩ := CInv.commits r S1.inv (by rw [hcap, u1]; split at h <;> simp_all <;> omega)
    refine ⟨S1.trans S2, ?_, ?_, ?_, ?_⟩
    · rw [u1] at l2; split at l2 <;> omega
    · rw [List.countP_cons]
      rw [u1] at u2
      split at u2 <;> simp_all <;> omega
    · intro x hx
      rcases List.mem_cons.1 hx with rfl | hx
      · cases hn : needs (r.foldl Go.Proofs.Ytkifgoadbnpofaa.commit1 (q1, fr1)).1 (r.foldl Go.Proofs.Ytkifgoadbnpofaa.commit1 (q1, fr1)).2 x with
        | false => rfl
        | true => rw [S2.mono x hn] at n1; cases n1
      · exact n2 x hx
    · intro x
      rw [k2, k1]
      by_cases e : p = x
      · subst e; simp
      · have : ¬ x = p := fun h => e h.symm
        simp [e, this]

/-- Behind a release: a page has no frame any more. -/
theorem CInv.release (C : CInv q Ro fr) {p f : Int} (hg : get fr p = some f) :
    CInv (q.release f).1 Ro (del fr p) ∧ (q.release f).1.cap = q.cap ∧ (q.release f).1.used = q.used - (if Ro f + cnt fr f = 1 then 1 else 0) ∧ ∀ h, (q.release f).1.dat h = q.dat h := by
  have hpos := cnt_pos hg
  obtain ⟨_, I', hc, hu, hd⟩ := C.inv.release (f := f) (by show 0 < Ro f + cnt fr f; omega) (C.small f)
  have hcd := cnt_del hg
  refine ⟨⟨I'.of_eq fun x => ?_, nodup_del C.nd _, fun x => ?_⟩, hc, hu, hd⟩
  · have := hcd x
    unfold less
    by_cases e : x = f
    · subst e; simp only [if_true] at this ⊢; omega
    · simp only [if_neg e] at this ⊢; omega
  · have := hcd x
    have h2 := C.small x
    split at this <;> omega
end

/- BYTES -/
theorem map_range_append (f : Nat → Int) (a b : Nat) : (List.range (a + b)).map f = (List.range a).map f ++ (List.range b).map fun i => f (a + i) := by
  rw [List.range_add, List.map_append, List.map_map]; rfl
theorem take_drop_eq {l : List Int} {o k : Nat} (h : o + k ≤ l.length) : (l.drop o).take k = (List.range k).map fun i => l.getD (o + i) 0 := by
  apply List.ext_getElem
  · simp; omega
  · intro i h1 h2
    simp at h1 h2
    simp [List.getD_eq_getElem?_getD, List.getElem?_eq_getElem (show o + i < l.length by omega)]
section
variable {q : Pool} {Ro : Int → Nat} {fr : List (Int × Int)}
theorem CInv.pg_len (C : CInv q Ro fr) (p : Int) : (pg q fr p).length = 64 := by
  unfold pg
  cases h : get fr p with
  | none => exact zeros_len 64
  | some f => exact C.inv.dat_len (by have := cnt_pos h; show 0 < Ro f + cnt fr f; omega)
theorem CInv.bytesOf (C : CInv q Ro fr) : ∀ (m : Nat) (a : Int) (n : Nat), 0 ≤ a → n < m → Vset.bytesOf q fr m a n = (List.range n).map fun (i : Nat) => byteAt q fr (a + (i : Int))
  | 0, _, _, _, h => by omega
  | m + 1, a, n, h0, h => by
    unfold Vset.bytesOf
    by_cases hn : n = 0
    · subst hn; simp
    · rw [if_neg hn]
      obtain ⟨K, hK⟩ : ∃ K : Nat, (K : Int) = min (n : Int) (64 - a % 64) := ⟨(min (n : Int) (64 - a % 64)).toNat, by omega⟩
      simp only [← hK, Int.toNat_natCast]
      rw [CInv.bytesOf C m (a + K) (n - K) (by omega) (by omega)]
      have hsplit : n = K + (n - K) := by omega
      conv => rhs; rw [hsplit, map_range_append]
      congr 1
      · have hpl := C.pg_len (a / 64)
        have hcell : (match get fr (a / 64) with
            | some f => (q.read f (a % 64) K).1
            | none => zeros K) = ((pg q fr (a / 64)).drop (a % 64).toNat).take K := by
          unfold pg
          cases hg : get fr (a / 64) with
          | none =>
            simp only [zeros, List.drop_replicate, List.take_replicate]
            congr 1
            omega
          | some f =>
            obtain ⟨x, hx, _, _, hd⟩ := C.inv.at_ (f := f) (by have := cnt_pos hg; show 0 < Ro f + cnt fr f; omega)
            have hin : inside (a % 64) K 64 = true := by simp [inside]; omega
            simp only [Pool.read, hx, hin, if_true, Int.toNat_natCast, hd]
        refine Eq.trans hcell ?_
        rw [take_drop_eq (by omega)]
        apply List.map_congr_left
        intro i hi
        simp at hi
        unfold byteAt
        rw [show (a + (i : Int)) / 64 = a / 64 by omega, show ((a + (i : Int)) % 64).toNat = (a % 64).toNat + i by omega]
      · apply List.map_congr_left
        intro i _
        congr 1
        omega

/-- Behind a write into pages of one's own. -/
structure Wrote (q : Pool) (Ro : Int → Nat) (fr : List (Int × Int)) (a : Int) (l : List Int) (q' : Pool) : Prop where
  inv : CInv q' Ro fr
  cap : q'.cap = q.cap
  used : q'.used = q.used
  needs : ∀ p, Go.Proofs.Ytkifgoadbnpofaa.needs q' fr p = Go.Proofs.Ytkifgoadbnpofaa.needs q fr p
  bytes : ∀ x, 0 ≤ x → byteAt q' fr x = if a ≤ x ∧ x < a + l.length then l.getD (x - a).toNat 0 else byteAt q fr x
  other : ∀ f, 0 < Ro f → q'.dat f = q.dat f
theorem CInv.putOne (C : CInv q Ro fr) {a : Int} {l : List Int} (hlen : (l.length : Int) ≤ 64 - a % 64) (hn : needs q fr (a / 64) = false) :
    Wrote q Ro fr a l (q.write ((get fr (a / 64)).getD 0) (a % 64) l).1 := by
  obtain ⟨f, hg, h1, hf0⟩ := C.own_page hn
  rw [hg]
  simp only [Option.getD_some]
  obtain ⟨_, I', hc, hu, hd, hsame⟩ := C.inv.write (f := f) (a := a % 64) (l := l) h1 (by simp [inside]; omega)
  have C' : CInv (q.write f (a % 64) l).1 Ro fr := ⟨I', C.nd, C.small⟩
  generalize (q.write f (a % 64) l).1 = Q at *
  have hdl : (q.dat f).length = 64 := C.inv.dat_len (by show 0 < Ro f + cnt fr f; omega)
  refine ⟨C', hc, hu, fun p => by rw [C'.needs_iff, C.needs_iff], fun x hx => ?_, fun k hk => ?_⟩
  · unfold byteAt pg
    by_cases hp : x / 64 = a / 64
    · rw [hp, hg]
      simp only
      rw [hd]
      simp only [List.getD_eq_getElem?_getD]
      by_cases hin : a ≤ x ∧ x < a + l.length
      · rw [if_pos hin, List.append_assoc, List.getElem?_append_right (by simp; omega), List.getElem?_append_left (by simp; omega)]
        congr 2
        simp
        omega
      · rw [if_neg hin]
        by_cases hlt : x < a
        · rw [List.append_assoc, List.getElem?_append_left (by simp; omega), List.getElem?_take_of_lt (by omega)]
        · rw [List.getElem?_append_right (by simp; omega), List.getElem?_drop]
          congr 2
          simp
          omega
    · have : ¬ (a ≤ x ∧ x < a + l.length) := by omega
      rw [if_neg this]
      cases hgx : get fr (x / 64) with
      | none => rfl
      | some k =>
        simp only
        have hkp := cnt_pos hgx
        have hk0 := (C.inv.dom k (by show 0 < Ro k + cnt fr k; omega)).1
        have hne : k ≠ f := by
          rintro rfl
          have := cnt_del hg k
          rw [if_pos rfl] at this
          have hg2 : get (del fr (a / 64)) (x / 64) = some k := by rw [get_del C.nd, if_neg (fun h => hp h.symm)]; exact hgx
          have := cnt_pos hg2
          omega
        rw [hsame k hk0 hne]
  · have hk0 := (C.inv.dom k (by show 0 < Ro k + cnt fr k; omega)).1
    have := cnt_pos hg
    exact hsame k hk0 (by rintro rfl; omega)
theorem CInv.putBytes : ∀ (m : Nat) {q : Pool}, CInv q Ro fr → ∀ (a : Int) (l : List Int), 0 ≤ a → l.length < m → (∀ x : Int, a ≤ x → x < a + l.length → needs q fr (x / 64) = false) →
    Wrote q Ro fr a l (putBytes q fr m a l)
  | 0, _, _, _, _, _, h, _ => by omega
  | m + 1, q, C, a, l, h0, h, hn => by
    unfold Go.Proofs.Ytkifgoadbnpofaa.putBytes
    by_cases hl : l.length = 0
    · rw [if_pos hl]
      exact ⟨C, rfl, rfl, fun _ => rfl, fun x _ => by rw [if_neg (by omega)], fun _ _ => rfl⟩
    · rw [if_neg hl]
      obtain ⟨K, hK⟩ : ∃ K : Nat, (K : Int) = min (l.length : Int) (64 - a % 64) := ⟨(min (l.length : Int) (64 - a % 64)).toNat, by omega⟩
      simp only [← hK, Int.toNat_natCast]
      have hkl : (l.take K).length = K := by simp; omega
      have W1 := C.putOne (a := a) (l := l.take K) (by rw [hkl]; omega) (hn a (by omega) (by omega))
      generalize (q.write ((get fr (a / 64)).getD 0) (a % 64) (l.take K)).1 = q1 at *
      have hdl : (l.drop K).length = l.length - K := by simp
      have W2 := CInv.putBytes m W1.inv (a + K) (l.drop K) (by omega) (by omega) (fun x h1 h2 => by rw [W1.needs]; exact hn x (by omega) (by omega))
      generalize Go.Proofs.Ytkifgoadbnpofaa.putBytes q1 fr m (a + K) (l.drop K) = q2 at *
      refine ⟨W2.inv, W2.cap.trans W1.cap, W2.used.trans W1.used, fun p => (W2.needs p).trans (W1.needs p), fun x hx => ?_, fun f hf => (W2.other f hf).trans (W1.other f hf)⟩
      rw [W2.bytes x hx, W1.bytes x hx, hdl, hkl]
      by_cases i1 : a + K ≤ x ∧ x < a + K + ((l.length - K : Nat) : Int)
      · rw [if_pos i1, if_pos (by omega)]
        simp only [List.getD_eq_getElem?_getD, List.getElem?_drop]
        congr 2
        omega
      · rw [if_neg i1]
        by_cases i2 : a ≤ x ∧ x < a + K
        · rw [if_pos i2, if_pos (by omega)]
          simp only [List.getD_eq_getElem?_getD]
          rw [List.getElem?_take_of_lt (by omega)]
        · rw [if_neg i2, if_neg (by omega)]
end
end Go.Proofs.Ytkifgoadbnpofaa
