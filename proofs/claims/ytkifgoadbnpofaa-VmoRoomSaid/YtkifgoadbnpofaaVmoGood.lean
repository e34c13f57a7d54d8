/- The invariant of a set of objects of memory (layer 8), without memory; reading and writing. -/
import Derived.Test.YtkifgoadbnpofaaVmoLaw
import Derived.Test.YtkifgoadbnpofaaVmoF
namespace Go.Proofs.Ytkifgoadbnpofaa
open Go Go.RowKit

/-- How often a frame stands among all objects'. -/
def refs (L : List (Int × Vobj)) (f : Int) : Nat := (L.map fun p => cnt p.2.frames f).sum
section
variable {L : List (Int × Vobj)} {id : Int} {o : Vobj}
theorem refs_put_none (h : get L id = none) (o : Vobj) (f : Int) : refs (put L id o) f = refs L f + cnt o.frames f := by
  rw [put_of_none _ _ _ h]; simp [refs]
theorem refs_del (h : get L id = some o) (f : Int) : refs (del L id) f + cnt o.frames f = refs L f := by
  induction L with
  | nil => simp [get] at h
  | cons a r ih =>
    obtain ⟨k, v⟩ := a
    by_cases e : k = id
    · simp [get, e] at h
      subst h
      simp [del, e, refs]
      omega
    · simp [get, e] at h
      have := ih h
      simp only [refs, del, if_neg e, List.map_cons, List.sum_cons] at this ⊢
      omega
theorem refs_put_some (h : get L id = some o) (o' : Vobj) (f : Int) : refs (put L id o') f = refs (del L id) f + cnt o'.frames f := by
  induction L with
  | nil => simp [get] at h
  | cons a r ih =>
    obtain ⟨k, v⟩ := a
    by_cases e : k = id
    · simp [put, del, e, refs]
      omega
    · simp [get, e] at h
      have := ih h
      simp only [refs, put, del, if_neg e, List.map_cons, List.sum_cons] at this ⊢
      omega
theorem refs_le (h : ∀ p ∈ L, p.2.frames.length ≤ 134217728) (f : Int) : refs L f ≤ L.length * 134217728 := by
  induction L with
  | nil => simp [refs]
  | cons a r ih =>
    have h1 := h a List.mem_cons_self
    have h2 := ih (fun p hp => h p (List.mem_cons_of_mem _ hp))
    have h3 : cnt a.2.frames f ≤ a.2.frames.length := List.countP_le_length
    simp only [refs, List.map_cons, List.sum_cons, List.length_cons] at h2 ⊢
    omega
end

structure Good (S : Vset) : Prop where
  pool : PInv S.pool (refs S.objs)
  nd : (S.objs.map (·.1)).Nodup
  most0 : 0 ≤ S.most
  most1 : S.most ≤ 65536
  count : (S.objs.length : Int) ≤ S.most
  last0 : 0 ≤ S.last
  key : ∀ p ∈ S.objs, 1 ≤ p.1 ∧ p.1 ≤ S.last
  size : ∀ p ∈ S.objs, 0 ≤ p.2.size ∧ p.2.size ≤ 4294967296 ∧ p.2.size % 64 = 0
  fnd : ∀ p ∈ S.objs, (p.2.frames.map (·.1)).Nodup
  fkey : ∀ p ∈ S.objs, ∀ x ∈ p.2.frames, 0 ≤ x.1 ∧ x.1 < p.2.size / 64
  sl : ∀ p ∈ S.objs, p.2.slice = true → p.2.frames = [] ∧ ∃ u, S.at_ p.2.parent = some u ∧ p.2.depth = u.depth + 1 ∧ 0 ≤ p.2.from_ ∧ p.2.from_ % 64 = 0 ∧ p.2.from_ + p.2.size ≤ u.size
  flat : ∀ p ∈ S.objs, p.2.slice = false → p.2.depth = 0
  depth : ∀ p ∈ S.objs, 0 ≤ p.2.depth ∧ p.2.depth ≤ 16
  par : ∀ p ∈ S.objs, p.2.parent = 0 ∨ ((S.at_ p.2.parent).isSome = true ∧ 1 ≤ p.2.parent ∧ p.2.parent < p.1)
  kids : ∀ p ∈ S.objs, ∀ c, c ∈ p.2.kids ↔ ∃ q, S.at_ c = some q ∧ q.parent = p.1
  knd : ∀ p ∈ S.objs, p.2.kids.Nodup
  gone : ∀ p ∈ S.objs, p.2.dropped = true → p.2.kids ≠ []

section
variable {S : Vset}
/-- A list of whole numbers within 0 .. n, none twice, is no longer than n. -/
theorem nodup_len : ∀ (n : Nat) (L : List Int), L.Nodup → (∀ x ∈ L, 0 ≤ x ∧ x < n) → L.length ≤ n
  | 0, L, _, h => by
    cases L with
    | nil => simp
    | cons a r => have := h a List.mem_cons_self; omega
  | n + 1, L, hn, h => by
    by_cases hm : (n : Int) ∈ L
    · have h1 : (L.erase (n : Int)).length = L.length - 1 := List.length_erase_of_mem hm
      have h2 := nodup_len n (L.erase (n : Int)) (hn.erase _) (fun x hx => by
        have h3 := h x (List.mem_of_mem_erase hx)
        have h4 : x ≠ (n : Int) := (List.Nodup.mem_erase_iff hn).1 hx |>.1
        omega)
      omega
    · have := nodup_len n L hn (fun x hx => by
        have h3 := h x hx
        have h4 : x ≠ (n : Int) := by rintro rfl; exact hm hx
        omega)
      omega
theorem Good.mem (_ : Good S) {id : Int} {o : Vobj} (h : S.at_ id = some o) : (id, o) ∈ S.objs := get_mem h
theorem Good.flen (G : Good S) {p : Int × Vobj} (hp : p ∈ S.objs) : p.2.frames.length ≤ 67108864 := by
  have h1 := G.size p hp
  have h2 := nodup_len (p.2.size / 64).toNat (p.2.frames.map (·.1)) (G.fnd p hp) (fun x hx => by
    obtain ⟨y, hy, rfl⟩ := List.mem_map.1 hx
    have := G.fkey p hp y hy
    omega)
  simp at h2
  omega
theorem Good.refs_small (G : Good S) (f : Int) : refs S.objs f ≤ 8796093022208 := by
  have h1 := refs_le (L := S.objs) (fun p hp => by have := G.flen hp; omega) f
  have h2 := G.count
  have h3 := G.most1
  have : S.objs.length * 134217728 ≤ 65536 * 134217728 := Nat.mul_le_mul_right _ (by omega)
  omega
theorem Good.cinv (G : Good S) {id : Int} {o : Vobj} (h : S.at_ id = some o) : CInv S.pool (refs (del S.objs id)) o.frames :=
  ⟨G.pool.of_eq (fun f => (refs_del h f).symm), G.fnd _ (G.mem h), fun f => by have := G.refs_small f; have := refs_del h f; omega⟩
theorem Good.baseOk (G : Good S) : ∀ (n : Nat) {id : Int} {o : Vobj}, S.at_ id = some o → o.depth ≤ n → BaseOk S n id
  | 0, id, o, h, hd => ⟨o, h, by
      cases hs : o.slice with
      | false => rfl
      | true =>
        obtain ⟨_, u, hu, he, _⟩ := G.sl _ (G.mem h) hs
        have := (G.depth _ (G.mem hu)).1
        simp only at he this
        omega⟩
  | n + 1, id, o, h, hd => ⟨o, h, fun hs => by
      obtain ⟨_, u, hu, he, h0, h1, h2⟩ := G.sl _ (G.mem h) hs
      have h3 := G.size _ (G.mem h)
      have h4 := G.size _ (G.mem hu)
      simp only at he h0 h1 h2 h3 h4 hu
      exact ⟨h0, by omega, G.baseOk n hu (by omega)⟩⟩
theorem Good.base_ok (G : Good S) {id : Int} {o : Vobj} (h : S.at_ id = some o) : BaseOk S Vset.fuel id :=
  G.baseOk _ h (by have := (G.depth _ (G.mem h)).2; simp only at this; unfold Vset.fuel; omega)
/-- Where a window lies in the object that has its pages. -/
theorem Good.baseIn (G : Good S) : ∀ (n : Nat) {id : Int} {o : Vobj} (fr : Int), S.at_ id = some o → o.depth ≤ n → 0 ≤ fr →
    ∃ ob, S.at_ (S.base n id fr).1 = some ob ∧ ob.slice = false ∧ fr ≤ (S.base n id fr).2 ∧ ((S.base n id fr).2 - fr) % 64 = 0 ∧ (S.base n id fr).2 - fr + o.size ≤ ob.size
  | 0, id, o, fr, h, hd, h0 => by
      refine ⟨o, h, ?_, Int.le_refl _, by simp [Vset.base], by simp [Vset.base]⟩
      cases hs : o.slice with
      | false => rfl
      | true =>
        obtain ⟨_, u, hu, he, _⟩ := G.sl _ (G.mem h) hs
        have := (G.depth _ (G.mem hu)).1
        simp only at he this
        omega
  | n + 1, id, o, fr, h, hd, h0 => by
      unfold Vset.base
      rw [h]
      simp only
      cases hs : o.slice with
      | false => simp only [Bool.false_eq_true, if_false]; exact ⟨o, h, hs, Int.le_refl _, by simp, by omega⟩
      | true =>
        simp only [if_true]
        obtain ⟨_, u, hu, he, q0, q1, q2⟩ := G.sl _ (G.mem h) hs
        simp only at he q0 q1 q2 hu
        obtain ⟨ob, b1, b2, b3, b4, b5⟩ := G.baseIn n (id := o.parent) (fr + o.from_) hu (by omega) (by omega)
        exact ⟨ob, b1, b2, by omega, by omega, by omega⟩
theorem Good.base_in (G : Good S) {id : Int} {o : Vobj} (h : S.at_ id = some o) :
    ∃ ob, S.at_ (S.base Vset.fuel id 0).1 = some ob ∧ ob.slice = false ∧ 0 ≤ (S.base Vset.fuel id 0).2 ∧ (S.base Vset.fuel id 0).2 % 64 = 0 ∧ (S.base Vset.fuel id 0).2 + o.size ≤ ob.size := by
  obtain ⟨ob, h1, h2, h3, h4, h5⟩ := G.baseIn Vset.fuel 0 h (by have := (G.depth _ (G.mem h)).2; simp only at this; unfold Vset.fuel; omega) (Int.le_refl _)
  exact ⟨ob, h1, h2, h3, by simpa using h4, by simpa using h5⟩
theorem base_flat {id : Int} {o : Vobj} (h : S.at_ id = some o) (hs : o.slice = false) (fr : Int) (n : Nat) : S.base n id fr = (id, fr) := by
  cases n with
  | zero => rfl
  | succ n => simp [Vset.base, h, hs]

/- OTHER FRAMES OF ONE OBJECT -/
theorem Vset.with_get (S : Vset) (id : Int) (o : Vobj) (st : Pool × List (Int × Int)) (k : Int) : (S.with id o st).at_ k = if id = k then some { o with frames := st.2 } else S.at_ k := by
  show get (put S.objs id _) k = _
  rw [get_put]; rfl
theorem Good.with (G : Good S) {id : Int} {o : Vobj} (hg : S.at_ id = some o) (hsl : o.slice = false) {st : Pool × List (Int × Int)} (C : CInv st.1 (refs (del S.objs id)) st.2)
    (hk : ∀ x ∈ st.2, 0 ≤ x.1 ∧ x.1 < o.size / 64) : Good (S.with id o st) := by
  have hm := G.mem hg
  have hobjs : (S.with id o st).objs = put S.objs id { o with frames := st.2 } := rfl
  have hmem : ∀ p ∈ (S.with id o st).objs, ∃ q ∈ S.objs, q.1 = p.1 ∧ p.2 = { q.2 with frames := p.2.frames } ∧ ((p.2.frames = st.2 ∧ q.2 = o) ∨ p.2.frames = q.2.frames) := by
    intro p hp
    rcases (mem_put G.nd).1 hp with rfl | ⟨h1, _⟩
    · exact ⟨_, hm, rfl, rfl, .inl ⟨rfl, rfl⟩⟩
    · exact ⟨p, h1, rfl, rfl, .inr rfl⟩
  have hat : ∀ k q, S.at_ k = some q → ∃ q', (S.with id o st).at_ k = some q' ∧ q' = { q with frames := q'.frames } := by
    intro k q hq
    rw [Vset.with_get]
    by_cases e : id = k
    · subst e; rw [hg] at hq; cases hq; rw [if_pos rfl]; exact ⟨_, rfl, rfl⟩
    · rw [if_neg e]; exact ⟨q, hq, rfl⟩
  have hat' : ∀ k q', (S.with id o st).at_ k = some q' → ∃ q, S.at_ k = some q ∧ q' = { q with frames := q'.frames } := by
    intro k q' hq
    rw [Vset.with_get] at hq
    by_cases e : id = k
    · subst e; rw [if_pos rfl] at hq; cases hq; exact ⟨o, hg, rfl⟩
    · rw [if_neg e] at hq; exact ⟨q', hq, rfl⟩
  have hlen : (S.with id o st).objs.length = S.objs.length := by
    have := congrArg List.length (keys_put_some S.objs id { o with frames := st.2 } (by rw [show get S.objs id = some o from hg]; rfl))
    simpa [hobjs] using this
  refine ⟨?_, nodup_put G.nd _ _, G.most0, G.most1, by rw [hlen]; exact G.count, G.last0, ?_, ?_, ?_, ?_, ?_, ?_, ?_, ?_, ?_, ?_, ?_⟩
  · exact C.inv.of_eq (fun f => by rw [hobjs, refs_put_some hg])
  · intro p hp
    obtain ⟨q, hq, e1, _⟩ := hmem p hp
    rw [← e1]; exact G.key q hq
  · intro p hp
    obtain ⟨q, hq, e1, e2, _⟩ := hmem p hp
    rw [e2]; exact G.size q hq
  · intro p hp
    obtain ⟨q, hq, e1, e2, e3⟩ := hmem p hp
    rcases e3 with ⟨e3, _⟩ | e3
    · rw [e3]; exact C.nd
    · rw [e3]; exact G.fnd q hq
  · intro p hp x hx
    obtain ⟨q, hq, e1, e2, e3⟩ := hmem p hp
    rw [e2]
    simp only
    rcases e3 with ⟨e3, e4⟩ | e3
    · rw [e3] at hx; rw [e4]; exact hk x hx
    · rw [e3] at hx; exact G.fkey q hq x hx
  · intro p hp hs
    obtain ⟨q, hq, e1, e2, e3⟩ := hmem p hp
    rw [e2] at hs
    simp only at hs
    obtain ⟨h1, u, hu, h2⟩ := G.sl q hq hs
    obtain ⟨u', hu', eu⟩ := hat _ _ hu
    refine ⟨?_, u', ?_, ?_⟩
    · rcases e3 with ⟨e3, e4⟩ | e3
      · rw [e4, hsl] at hs; cases hs
      · rw [e3]; exact h1
    · rw [e2]; exact hu'
    · rw [e2, eu]; exact h2
  · intro p hp hs
    obtain ⟨q, hq, e1, e2, e3⟩ := hmem p hp
    rw [e2] at hs ⊢
    exact G.flat q hq hs
  · intro p hp
    obtain ⟨q, hq, e1, e2, e3⟩ := hmem p hp
    rw [e2]; exact G.depth q hq
  · intro p hp
    obtain ⟨q, hq, e1, e2, e3⟩ := hmem p hp
    rw [e2]
    simp only
    rcases G.par q hq with h | ⟨h1, h2⟩
    · exact .inl h
    · obtain ⟨u, hu⟩ := Option.isSome_iff_exists.1 h1
      obtain ⟨u', hu', _⟩ := hat _ _ hu
      exact .inr ⟨by rw [hu']; rfl, by rw [← e1]; exact h2⟩
  · intro p hp c
    obtain ⟨q, hq, e1, e2, e3⟩ := hmem p hp
    rw [e2]
    simp only
    rw [G.kids q hq c, ← e1]
    constructor
    · rintro ⟨k, hk1, hk2⟩
      obtain ⟨k', h1, h2⟩ := hat _ _ hk1
      exact ⟨k', h1, by rw [h2]; exact hk2⟩
    · rintro ⟨k, hk1, hk2⟩
      obtain ⟨k', h1, h2⟩ := hat' _ _ hk1
      exact ⟨k', h1, by rw [h2] at hk2; exact hk2⟩
  · intro p hp
    obtain ⟨q, hq, e1, e2, e3⟩ := hmem p hp
    rw [e2]; exact G.knd q hq
  · intro p hp hs
    obtain ⟨q, hq, e1, e2, e3⟩ := hmem p hp
    rw [e2] at hs ⊢
    exact G.gone q hq hs

/-- Same objects, but for frames. -/
structure Alike (S S' : Vset) : Prop where
  at_ : ∀ k, (S'.at_ k).map (fun o => { o with frames := [] }) = (S.at_ k).map fun o => { o with frames := [] }
  most : S'.most = S.most
  last : S'.last = S.last
  len : S'.objs.length = S.objs.length
theorem Alike.refl (S : Vset) : Alike S S := ⟨fun _ => rfl, rfl, rfl, rfl⟩
theorem Alike.trans {S' S'' : Vset} (h : Alike S S') (k : Alike S' S'') : Alike S S'' := ⟨fun i => (k.at_ i).trans (h.at_ i), k.most.trans h.most, k.last.trans h.last, k.len.trans h.len⟩
theorem Alike.has {S' : Vset} (h : Alike S S') {id : Int} {o : Vobj} (hg : S.at_ id = some o) : ∃ fr, S'.at_ id = some { o with frames := fr } := by
  have := h.at_ id
  rw [hg] at this
  cases h' : S'.at_ id with
  | none => rw [h'] at this; cases this
  | some o' =>
    rw [h'] at this
    simp only [Option.map_some, Option.some.injEq] at this
    refine ⟨o'.frames, ?_⟩
    rw [Vobj.mk.injEq] at this
    simp only at this
    obtain ⟨e1, e2, _, e4, e5, e6, e7, e8⟩ := this
    cases o'
    simp only at e1 e2 e4 e5 e6 e7 e8
    subst e1 e2 e4 e5 e6 e7 e8
    rfl
theorem Alike.hasnt {S' : Vset} (h : Alike S S') {id : Int} (hg : S.at_ id = none) : S'.at_ id = none := by
  have := h.at_ id
  rw [hg] at this
  cases h' : S'.at_ id with
  | none => rfl
  | some o' => rw [h'] at this; cases this
theorem Alike.base {S' : Vset} (h : Alike S S') : ∀ (n : Nat) (id fr : Int), S'.base n id fr = S.base n id fr
  | 0, _, _ => rfl
  | n + 1, id, fr => by
    unfold Vset.base
    cases hg : S.at_ id with
    | none => rw [h.hasnt hg]
    | some o =>
      obtain ⟨fr', h'⟩ := h.has hg
      rw [h']
      simp only
      split
      · exact Alike.base h n _ _
      · rfl
theorem Alike.find {S' : Vset} (h : Alike S S') {id : Int} {o : Vobj} (hg : S.find id = some o) : ∃ fr, S'.find id = some { o with frames := fr } := by
  obtain ⟨h1, h2⟩ := vreach_facts hg
  obtain ⟨fr, h3⟩ := h.has h1
  exact ⟨fr, by simp [Vset.find, h3, h2]⟩
theorem Alike.find_none {S' : Vset} (h : Alike S S') {id : Int} (hg : S.find id = none) : S'.find id = none := by
  unfold Vset.find at hg ⊢
  cases hat : S.at_ id with
  | none => rw [h.hasnt hat]; rfl
  | some o =>
    obtain ⟨fr, h3⟩ := h.has hat
    rw [hat] at hg
    rw [h3]
    simp only [Option.bind_some] at hg ⊢
    split at hg
    · rename_i hd; simp [hd]
    · cases hg
theorem Vset.with_alike {id : Int} {o : Vobj} (hg : S.at_ id = some o) (st : Pool × List (Int × Int)) : Alike S (S.with id o st) := by
  refine ⟨fun k => ?_, rfl, rfl, ?_⟩
  · rw [Vset.with_get]
    by_cases e : id = k
    · subst e; rw [if_pos rfl, hg]; rfl
    · rw [if_neg e]
  · have := congrArg List.length (keys_put_some S.objs id { o with frames := st.2 } (by rw [show get S.objs id = some o from hg]; rfl))
    simp only [List.length_map] at this
    exact this

/-- The byte of an object with pages; the byte of any object. -/
def Vset.byte (S : Vset) (id x : Int) : Int := match S.at_ id with
  | none => 0
  | some o => byteAt S.pool o.frames x
def Vset.view (S : Vset) (id x : Int) : Int := S.byte (S.base Vset.fuel id 0).1 ((S.base Vset.fuel id 0).2 + x)
/-- The bytes of a range. -/
def Vset.bytes (S : Vset) (id a : Int) (n : Nat) : List Int := (List.range n).map fun (i : Nat) => S.view id (a + (i : Int))
theorem Vset.bytes_len (S : Vset) (id a : Int) (n : Nat) : (S.bytes id a n).length = n := by simp [Vset.bytes]

theorem Good.read (G : Good S) {id a n : Int} {o : Vobj} (hf : S.find id = some o) (h0 : 0 ≤ n) (h1 : n ≤ 4096) (hin : inside a n o.size = true) : S.read id a n = (S.bytes id a n.toNat, 0) := by
  obtain ⟨hat, _⟩ := vreach_facts hf
  obtain ⟨ob, b1, b2, b3, b4, b5⟩ := G.base_in hat
  have hr : S.reach id a n = ((S.base Vset.fuel id 0).1, (S.base Vset.fuel id 0).2 + a, 0) := by simp [Vset.reach, hf, hin]
  unfold Vset.read
  rw [hr, if_neg (by omega), if_neg (by simp)]
  simp only
  rw [b1]
  simp only [inside, decide_eq_true_eq] at hin
  simp only
  rw [(G.cinv b1).bytesOf (n.toNat + 1) _ _ (by omega) (by omega)]
  unfold Vset.bytes Vset.view Vset.byte
  simp only [b1, Int.add_assoc]

theorem mem_touched {a n p : Int} (h : p ∈ touched a n) (h1 : 0 ≤ n) : a / 64 ≤ p ∧ p ≤ (a + n - 1) / 64 ∧ 0 < n := by
  unfold touched at h
  obtain ⟨k, hk, rfl⟩ := List.mem_map.1 h
  have := List.mem_range.1 hk
  unfold npages at this
  split at this <;> omega
theorem touched_mem {a n p : Int} (h1 : a / 64 ≤ p) (h2 : p ≤ (a + n - 1) / 64) (h3 : 0 < n) : p ∈ touched a n := by
  unfold touched
  refine List.mem_map.2 ⟨(p - a / 64).toNat, List.mem_range.2 ?_, by omega⟩
  unfold npages
  split <;> omega
theorem touched_len (a n : Int) : (touched a n).length = (npages a n).toNat := by simp [touched]
/-- How many frames a write or a commit wants. -/
def Vset.want (S : Vset) (id a n : Int) : Nat := match S.at_ (S.base Vset.fuel id 0).1 with
  | none => 0
  | some ob => (touched ((S.base Vset.fuel id 0).2 + a) n).countP (needs S.pool ob.frames)
theorem Vset.want_le (S : Vset) (id a n : Int) : S.want id a n ≤ (npages ((S.base Vset.fuel id 0).2 + a) n).toNat := by
  unfold Vset.want
  split
  · omega
  · rw [← touched_len]; exact List.countP_le_length

/-- What is left of everything when frames were given out. -/
structure Gave (S S' : Vset) (n : Nat) : Prop where
  good : Good S'
  alike : Alike S S'
  cap : S'.pool.cap = S.pool.cap
  used0 : S.pool.used ≤ S'.pool.used
  used1 : S'.pool.used ≤ S.pool.used + n
theorem Good.roomw (G : Good S) : wrap64 (S.pool.cap - S.pool.used) = S.pool.cap - S.pool.used := by
  have h1 := G.pool.used_le
  have h2 := G.pool.len
  have h3 := G.pool.cap1
  exact w64 (by omega) (by omega)

theorem mem_get {fr : List (Int × Int)} (hn : (fr.map (·.1)).Nodup) {x : Int × Int} (h : x ∈ fr) : (get fr x.1).isSome = true := by rw [get_of_mem hn (v := x.2) h]; rfl
theorem get_isSome_mem {fr : List (Int × Int)} {k : Int} (h : (get fr k).isSome = true) : ∃ v, (k, v) ∈ fr := by
  obtain ⟨v, hv⟩ := Option.isSome_iff_exists.1 h
  exact ⟨v, get_mem hv⟩

/-- Pages of an object with pages get frames. -/
theorem Good.commit (G : Good S) {id : Int} {o : Vobj} (hg : S.at_ id = some o) (hsl : o.slice = false) {list : List Int} (hl : ∀ p ∈ list, 0 ≤ p ∧ p < o.size / 64) :
    (S.pool.cap - S.pool.used < (list.countP (needs S.pool o.frames) : Nat) ∧ S.commit id list = (S, -4)) ∨
    ((list.countP (needs S.pool o.frames) : Nat) ≤ S.pool.cap - S.pool.used ∧ ∃ q fr, S.commit id list = (S.with id o (q, fr), 0) ∧ Gave S (S.with id o (q, fr)) (list.countP (needs S.pool o.frames)) ∧
      Step S.pool (refs (del S.objs id)) o.frames q fr ∧ (∀ p ∈ list, needs q fr p = false) ∧ ∀ x, (get fr x).isSome = ((get o.frames x).isSome || decide (x ∈ list))) := by
  have C := G.cinv hg
  unfold Vset.commit
  rw [hg]
  simp only [G.roomw]
  by_cases hr : S.pool.cap - S.pool.used < (list.countP (needs S.pool o.frames) : Nat)
  · left
    exact ⟨hr, by rw [if_pos hr]⟩
  · right
    rw [if_neg hr]
    obtain ⟨St, u0, u1, hn, hk⟩ := CInv.commits list C (by omega)
    generalize list.foldl commit1 (S.pool, o.frames) = st at *
    obtain ⟨q, fr⟩ := st
    simp only at St u0 u1 hn hk
    refine ⟨by omega, q, fr, rfl, ⟨G.with hg hsl St.inv (fun x hx => ?_), Vset.with_alike hg _, St.cap, u0, u1⟩, St, hn, hk⟩
    have h1 := mem_get St.inv.nd hx
    rw [hk] at h1
    simp only [Bool.or_eq_true, decide_eq_true_eq] at h1
    rcases h1 with h1 | h1
    · obtain ⟨v, hv⟩ := get_isSome_mem h1
      exact G.fkey _ (G.mem hg) (x.1, v) hv
    · exact hl _ h1
/-- Every byte behind new frames is what it was. -/
theorem Good.step_byte (G : Good S) {id : Int} {o : Vobj} (hg : S.at_ id = some o) {q : Pool} {fr : List (Int × Int)} (St : Step S.pool (refs (del S.objs id)) o.frames q fr) (k x : Int) :
    (S.with id o (q, fr)).byte k x = S.byte k x := by
  unfold Vset.byte
  rw [Vset.with_get]
  by_cases e : id = k
  · subst e
    rw [if_pos rfl, hg]
    simp only
    unfold byteAt
    rw [show (S.with id o (q, fr)).pool = q from rfl, St.page]
  · rw [if_neg e]
    cases hk : S.at_ k with
    | none => rfl
    | some ok =>
      simp only
      unfold byteAt pg
      cases hgx : get ok.frames (x / 64) with
      | none => rfl
      | some f =>
        simp only
        rw [show (S.with id o (q, fr)).pool = q from rfl, St.other f]
        have h1 : get (del S.objs id) k = some ok := by rw [get_del G.nd, if_neg e]; exact hk
        have h2 := refs_del h1 f
        have h3 := cnt_pos hgx
        omega
theorem Alike.bytes_eq {S' : Vset} (h : Alike S S') (hb : ∀ k x, S'.byte k x = S.byte k x) (id a : Int) (n : Nat) : S'.bytes id a n = S.bytes id a n := by
  unfold Vset.bytes Vset.view
  rw [h.base]
  simp only [hb]

/-- Bytes are written, or nothing. -/
theorem Good.write (G : Good S) {id a : Int} {l : List Int} {o : Vobj} (hf : S.find id = some o) (h1 : l.length ≤ 4096) (hin : inside a l.length o.size = true) :
    (S.pool.cap - S.pool.used < (S.want id a l.length : Nat) ∧ S.write id a l = (S, -4)) ∨
    ((S.want id a l.length : Nat) ≤ S.pool.cap - S.pool.used ∧ (S.write id a l).2 = 0 ∧ Gave S (S.write id a l).1 (S.want id a l.length) ∧
      ∀ k x, 0 ≤ (S.base Vset.fuel k 0).2 + x → (S.write id a l).1.view k x =
        if (S.base Vset.fuel k 0).1 = (S.base Vset.fuel id 0).1 ∧ (S.base Vset.fuel id 0).2 + a ≤ (S.base Vset.fuel k 0).2 + x ∧ (S.base Vset.fuel k 0).2 + x < (S.base Vset.fuel id 0).2 + a + l.length
        then l.getD ((S.base Vset.fuel k 0).2 + x - ((S.base Vset.fuel id 0).2 + a)).toNat 0 else S.view k x) := by
  obtain ⟨hat, _⟩ := vreach_facts hf
  obtain ⟨ob, b1, b2, b3, b4, b5⟩ := G.base_in hat
  have hr : S.reach id a l.length = ((S.base Vset.fuel id 0).1, (S.base Vset.fuel id 0).2 + a, 0) := by simp [Vset.reach, hf, hin]
  have hw : S.want id a l.length = (touched ((S.base Vset.fuel id 0).2 + a) l.length).countP (needs S.pool ob.frames) := by simp [Vset.want, b1]
  simp only [inside, decide_eq_true_eq] at hin
  have hpos := (G.size _ (G.mem b1))
  simp only at hpos
  have hlist : ∀ p ∈ touched ((S.base Vset.fuel id 0).2 + a) l.length, 0 ≤ p ∧ p < ob.size / 64 := by
    intro p hp
    have := mem_touched hp (by omega)
    omega
  unfold Vset.write
  rw [hr, if_neg (by omega), if_neg (by simp)]
  simp only
  generalize hB : S.base Vset.fuel id 0 = B at *
  rcases G.commit b1 b2 hlist with ⟨hroom, hc⟩ | ⟨hroom, q, fr, hc, Gv, St, hn, hk⟩
  · left
    rw [hc]
    exact ⟨by rw [hw]; exact hroom, by simp⟩
  · right
    rw [hc]
    simp only [ne_eq, not_true_eq_false, if_false]
    have hat' := Vset.with_at S B.1 ob (q, fr)
    rw [hat']
    simp only
    have hW := CInv.putBytes (l.length + 1) St.inv (B.2 + a) l (by omega) (by omega) (fun x h2 h3 => hn _ (touched_mem (by omega) (by omega) (by omega)))
    have hS : ({ S.with B.1 ob (q, fr) with pool := putBytes (S.with B.1 ob (q, fr)).pool fr (l.length + 1) (B.2 + a) l } : Vset) = S.with B.1 ob (putBytes q fr (l.length + 1) (B.2 + a) l, fr) := rfl
    rw [hS]
    generalize putBytes q fr (l.length + 1) (B.2 + a) l = Q at *
    have hfk : ∀ x ∈ fr, 0 ≤ x.1 ∧ x.1 < ob.size / 64 := by
      have := Gv.good.fkey _ (Gv.good.mem hat')
      exact this
    refine ⟨by rw [hw]; exact hroom, trivial, ⟨G.with b1 b2 hW.inv hfk, Vset.with_alike b1 _, hW.cap.trans Gv.cap, ?_, ?_⟩, ?_⟩
    · have := Gv.used0
      have h2 := hW.used
      show S.pool.used ≤ Q.used
      have h3 : (S.with B.1 ob (q, fr)).pool.used = q.used := rfl
      omega
    · have := Gv.used1
      have h2 := hW.used
      show Q.used ≤ _
      have h3 : (S.with B.1 ob (q, fr)).pool.used = q.used := rfl
      rw [hw]
      omega
    · intro k x hx
      unfold Vset.view
      rw [(Vset.with_alike b1 (Q, fr)).base]
      generalize S.base Vset.fuel k 0 = K at *
      have hstep := G.step_byte b1 St K.1 (K.2 + x)
      rw [← hstep]
      unfold Vset.byte
      rw [Vset.with_get, Vset.with_get]
      by_cases e : B.1 = K.1
      · simp only [if_pos e]
        rw [show (S.with B.1 ob (Q, fr)).pool = Q from rfl, show (S.with B.1 ob (q, fr)).pool = q from rfl, hW.bytes _ hx]
        by_cases hc : B.2 + a ≤ K.2 + x ∧ K.2 + x < B.2 + a + l.length
        · rw [if_pos hc, if_pos ⟨e.symm, hc⟩]
        · rw [if_neg hc, if_neg (fun h => hc h.2)]
      · simp only [if_neg e]
        rw [if_neg (fun h => e h.1.symm)]
        cases hk : S.at_ K.1 with
        | none => rfl
        | some ok =>
          simp only
          unfold byteAt pg
          cases hgx : get ok.frames ((K.2 + x) / 64) with
          | none => rfl
          | some f =>
            simp only
            rw [show (S.with B.1 ob (Q, fr)).pool = Q from rfl, show (S.with B.1 ob (q, fr)).pool = q from rfl, hW.other f]
            have h1 : get (del S.objs B.1) K.1 = some ok := by rw [get_del G.nd, if_neg e]; exact hk
            have h2 := refs_del h1 f
            have h3 := cnt_pos hgx
            omega
end
end Go.Proofs.Ytkifgoadbnpofaa
