/- What the law VmoRoom comes to, without memory: committing and decommitting pages of which none is shared. -/
import Derived.Test.YtkifgoadbnpofaaVmoApartPure
import Derived.Test.YtkifgoadbnpofaaVmoPure3
namespace Go.Proofs.Ytkifgoadbnpofaa
open Go Go.RowKit

/-- No frame is used twice. -/
def Solo (S : Vset) : Prop := ∀ f, refs S.objs f ≤ 1
theorem touched_nodup (a n : Int) : (touched a n).Nodup := by
  unfold touched
  rw [List.nodup_iff_pairwise_ne, List.pairwise_map]
  exact List.Pairwise.imp (fun h => by omega) (List.pairwise_lt_range (n := (npages a n).toNat))
theorem CInv.commits_fresh {Ro : Int → Nat} : ∀ (list : List Int) {q : Pool} {fr : List (Int × Int)}, CInv q Ro fr → list.Nodup → (∀ p ∈ list, get fr p = none) → (∀ f, Ro f + cnt fr f ≤ 1) → q.used + (list.length : Int) ≤ q.cap →
    (list.foldl Go.Proofs.Ytkifgoadbnpofaa.commit1 (q, fr)).1.used = q.used + list.length ∧ ∀ f, Ro f + cnt (list.foldl Go.Proofs.Ytkifgoadbnpofaa.commit1 (q, fr)).2 f ≤ 1
  | [], q, fr, _, _, _, hs, _ => ⟨by simp, hs⟩
  | p :: r, q, fr, C, hn, hf, hs, h => by
    simp only [List.foldl_cons, List.length_cons] at h ⊢
    have hgp := hf p List.mem_cons_self
    have hneeds : needs q fr p = true := by rw [C.needs_iff, hgp]
    obtain ⟨S1, u1, _, k1⟩ := C.commit1 p (fun _ => by omega)
    rw [hneeds] at u1
    have e : Go.Proofs.Ytkifgoadbnpofaa.commit1 (q, fr) p = (q.alloc.1, put fr p q.alloc.2.1) := by simp [Go.Proofs.Ytkifgoadbnpofaa.commit1, hgp]
    obtain ⟨g, he, hg0, _⟩ := C.inv.alloc (by omega)
    have e1 : q.alloc.2.1 = (g : Int) := by rw [he]
    rw [e, e1] at S1 u1 k1 ⊢
    simp only at S1 u1 k1 ⊢
    rw [List.nodup_cons] at hn
    obtain ⟨h1, h2⟩ := CInv.commits_fresh r S1.inv hn.2 (fun x hx => by
      have := k1 x
      rw [hf x (List.mem_cons_of_mem _ hx)] at this
      have hne : ¬ p = x := fun e => hn.1 (e ▸ hx)
      simp [hne] at this
      exact this) (fun f => by
      rw [cnt_put_none hgp]
      have := hs f
      split
      · rename_i ef; subst ef; have : Ro (g : Int) + cnt fr (g : Int) = 0 := hg0; omega
      · omega) (by have := S1.cap; simp at u1; omega)
    refine ⟨?_, h2⟩
    rw [h1, u1]
    simp
    omega
section
variable {S : Vset}
theorem solo_with {id : Int} {o : Vobj} (hs : S.at_ id = some o) {q : Pool} {fr : List (Int × Int)} : (∀ f, refs (del S.objs id) f + cnt fr f ≤ 1) → Solo (S.with id o (q, fr)) := fun h f => by
  show refs (put S.objs id _) f ≤ 1
  rw [refs_put_some hs]
  exact h f
theorem Good.commitFresh (G : Good S) {id : Int} {o : Vobj} (hg : S.at_ id = some o) (hsl : o.slice = false) {list : List Int} (hl : ∀ p ∈ list, 0 ≤ p ∧ p < o.size / 64) (hn : list.Nodup) (hnone : ∀ p ∈ list, get o.frames p = none) (hs : Solo S) :
    (S.pool.cap - S.pool.used < list.length ∧ S.commit id list = (S, -4)) ∨
    (list.length ≤ S.pool.cap - S.pool.used ∧ ∃ q fr, S.commit id list = (S.with id o (q, fr), 0) ∧ Good (S.with id o (q, fr)) ∧ Solo (S.with id o (q, fr)) ∧ q.cap = S.pool.cap ∧ q.used = S.pool.used + list.length ∧
      ∀ x, (get fr x).isSome = ((get o.frames x).isSome || decide (x ∈ list))) := by
  have C := G.cinv hg
  have hct : list.countP (needs S.pool o.frames) = list.length := by
    rw [List.countP_eq_length]
    intro p hp
    rw [C.needs_iff, hnone p hp]
  have hso : ∀ f, refs (del S.objs id) f + cnt o.frames f ≤ 1 := fun f => by rw [refs_del hg]; exact hs f
  rcases G.commit hg hsl hl with ⟨h, e⟩ | ⟨h, q, fr, e, Gv, St, _, hk⟩
  · rw [hct] at h
    exact .inl ⟨h, e⟩
  · rw [hct] at h
    right
    refine ⟨h, q, fr, e, Gv.good, ?_, St.cap, ?_, hk⟩
    · have e2 : S.commit id list = (S.with id o (list.foldl Go.Proofs.Ytkifgoadbnpofaa.commit1 (S.pool, o.frames)), 0) := by
        unfold Vset.commit
        rw [hg]
        simp only [G.roomw, hct]
        rw [if_neg (by omega)]
        rfl
      obtain ⟨f1, f2⟩ := CInv.commits_fresh list C hn hnone hso (by omega)
      rw [e2] at e
      have e3 := congrArg Prod.fst e
      simp only at e3
      rw [← e3]
      generalize list.foldl Go.Proofs.Ytkifgoadbnpofaa.commit1 (S.pool, o.frames) = st at *
      obtain ⟨q', fr'⟩ := st
      exact solo_with hg f2
    · have e2 : S.commit id list = (S.with id o (list.foldl Go.Proofs.Ytkifgoadbnpofaa.commit1 (S.pool, o.frames)), 0) := by
        unfold Vset.commit
        rw [hg]
        simp only [G.roomw, hct]
        rw [if_neg (by omega)]
        rfl
      obtain ⟨f1, f2⟩ := CInv.commits_fresh list C hn hnone hso (by omega)
      rw [e2] at e
      have e3 := congrArg (fun x => x.1.pool.used) e
      have e4 : q.used = (list.foldl Go.Proofs.Ytkifgoadbnpofaa.commit1 (S.pool, o.frames)).1.used := e3.symm
      rw [e4, f1]
theorem Good.release1 (G : Good S) {id p : Int} {o : Vobj} (hg : S.at_ id = some o) (hsl : o.slice = false) :
    (get o.frames p = none ∧ S.release id p = S) ∨ (∃ f q, get o.frames p = some f ∧ S.release id p = S.with id o (q, del o.frames p) ∧ Good (S.with id o (q, del o.frames p)) ∧ q.cap = S.pool.cap ∧ q.used = S.pool.used - (if refs S.objs f = 1 then 1 else 0) ∧
      CInv q (refs (del S.objs id)) (del o.frames p) ∧ ∀ h, q.dat h = S.pool.dat h) := by
  unfold Vset.release
  rw [hg]
  simp only
  cases hp : get o.frames p with
  | none => exact .inl ⟨rfl, rfl⟩
  | some f =>
    right
    have C := G.cinv hg
    obtain ⟨C', hc, hu, hd⟩ := C.release hp
    refine ⟨f, _, rfl, rfl, G.with hg hsl C' (fun x hx => ?_), hc, ?_, C', hd⟩
    · exact G.fkey _ (G.mem hg) x ((del_sublist _ _).subset hx)
    · rw [hu, refs_del hg]
theorem Good.releasesAll {id : Int} : ∀ (list : List Int) {S : Vset} {o : Vobj}, Good S → Solo S → S.at_ id = some o → o.slice = false → list.Nodup → (∀ p ∈ list, (get o.frames p).isSome = true) →
    ∃ S' fr, S.releases id list = S' ∧ Good S' ∧ Solo S' ∧ Alike S S' ∧ S'.at_ id = some { o with frames := fr } ∧ S'.pool.cap = S.pool.cap ∧ S'.pool.used = S.pool.used - list.length ∧ ∀ x, get fr x = if x ∈ list then none else get o.frames x
  | [], S, o, G, hs, hg, _, _, _ => ⟨S, o.frames, rfl, G, hs, Alike.refl S, hg, rfl, by simp, by simp⟩
  | p :: r, S, o, G, hs, hg, hsl, hn, hall => by
    rw [List.nodup_cons] at hn
    rcases G.release1 (p := p) hg hsl with ⟨h, _⟩ | ⟨f, q, hp, e, G', hc, hu, C', _⟩
    · have := hall p List.mem_cons_self
      rw [h] at this; cases this
    · have h1 := refs_del hg f
      have h2 := cnt_pos hp
      have h3 := hs f
      rw [if_pos (by omega)] at hu
      have hs' : Solo (S.with id o (q, del o.frames p)) := solo_with hg (fun x => by
        have q1 := refs_del hg x
        have q2 := hs x
        have q3 := cnt_del hp x
        omega)
      have hat := Vset.with_at S id o (q, del o.frames p)
      have hnd := G.fnd _ (G.mem hg)
      obtain ⟨S', fr, e', G'', hs'', A, hat', hc', hu', hfr⟩ := Good.releasesAll r G' hs' hat hsl hn.2 (fun x hx => by
        simp only
        have hpx : ¬ p = x := fun h => hn.1 (by rw [h]; exact hx)
        rw [get_del hnd, if_neg hpx]
        exact hall x (List.mem_cons_of_mem _ hx))
      refine ⟨S', fr, ?_, G'', hs'', (Vset.with_alike hg _).trans A, hat', hc'.trans hc, ?_, fun x => ?_⟩
      · unfold Vset.releases at e' ⊢
        rw [List.foldl_cons, e]; exact e'
      · rw [hu', show (S.with id o (q, del o.frames p)).pool.used = q.used from rfl, hu, List.length_cons]
        push_cast
        omega
      · rw [hfr]
        simp only
        rw [get_del hnd]
        by_cases h : p = x
        · subst h; simp
        · have h' : ¬ x = p := fun e => h e.symm
          simp [h, h']
theorem releases_none {id : Int} : ∀ (list : List Int) {S : Vset} {o : Vobj}, S.at_ id = some o → (∀ p ∈ list, get o.frames p = none) → S.releases id list = S
  | [], _, _, _, _ => rfl
  | p :: r, S, o, hg, h => by
    unfold Vset.releases
    rw [List.foldl_cons]
    have e : S.release id p = S := by
      unfold Vset.release
      rw [hg]
      simp only
      rw [h p List.mem_cons_self]
    rw [e]
    exact releases_none r hg (fun x hx => h x (List.mem_cons_of_mem _ hx))
theorem frames_nil {fr : List (Int × Int)} (h : ∀ x, get fr x = none) : fr = [] := by
  cases fr with
  | nil => rfl
  | cons a r =>
    have := h a.1
    obtain ⟨k, v⟩ := a
    simp [get] at this
/-- What is committed of a range of a fresh object with pages. -/
theorem Good.op1 (G : Good S) {id size d n : Int} (h : Has S id size false d) (h0 : 0 ≤ n) (h1 : n % 64 = 0) (h2 : n ≤ size) (h3 : n ≤ 4096) (hfr : ∀ o, S.at_ id = some o → o.frames = []) (hs : Solo S) :
    (S.pool.cap - S.pool.used < n / 64 ∧ S.op id 1 0 n = (S, -4)) ∨
    (n / 64 ≤ S.pool.cap - S.pool.used ∧ ∃ S' fr, S.op id 1 0 n = (S', 0) ∧ Good S' ∧ Solo S' ∧ Alike S S' ∧ S'.pool.cap = S.pool.cap ∧ S'.pool.used = S.pool.used + n / 64 ∧
      (∃ o : Vobj, S'.at_ id = some { o with frames := fr }) ∧ (∀ x, (get fr x).isSome = decide (x ∈ touched 0 n)) ∧ ∀ k, k ≠ id → S'.at_ k = S.at_ k) := by
  have hb := h.base0
  obtain ⟨o, q1, q2, q3, q4⟩ := h
  have hat := (vreach_facts q1).1
  have hre : S.reach id 0 n = (id, 0, 0) := by
    have hin : inside 0 n o.size = true := by simp [inside]; omega
    simp [Vset.reach, q1, hin, hb]
  have hof := hfr o hat
  have hlen : ((touched 0 n).length : Int) = n / 64 := by rw [touched_len]; unfold npages; split <;> omega
  have hso := G.size _ (G.mem hat)
  simp only at hso
  have e : S.op id 1 0 n = S.commit id (touched 0 n) := by
    unfold Vset.op
    rw [q1]
    simp only
    rw [if_neg (by omega), hre, if_neg (by simp), if_neg (by omega)]
    simp
  rw [e]
  rcases G.commitFresh hat q3 (list := touched 0 n) (fun p hp => by have := mem_touched hp h0; omega) (touched_nodup _ _) (fun p _ => by rw [hof]; rfl) hs with ⟨r1, r2⟩ | ⟨r1, q, fr, r2, r3, r4, r5, r6, r7⟩
  · exact .inl ⟨by omega, r2⟩
  · refine .inr ⟨by omega, _, fr, r2, r3, r4, Vset.with_alike hat _, r5, by show q.used = _; omega, ⟨o, Vset.with_at _ _ _ _⟩, fun x => ?_, fun k hk => ?_⟩
    · rw [r7, hof]; simp [get]
    · rw [Vset.with_get, if_neg (fun e => hk e.symm)]
/-- What is decommitted. -/
theorem op2_eq {id size d n : Int} (h : Has S id size false d) (h0 : 0 ≤ n) (h1 : n % 64 = 0) (h2 : n ≤ size) (h3 : n ≤ 4096) : S.op id 2 0 n = (S.releases id (touched 0 n), 0) := by
  have hb := h.base0
  obtain ⟨o, q1, q2, q3, q4⟩ := h
  have hre : S.reach id 0 n = (id, 0, 0) := by
    have hin : inside 0 n o.size = true := by simp [inside]; omega
    simp [Vset.reach, q1, hin, hb]
  unfold Vset.op
  rw [q1]
  simp only
  rw [if_neg (by omega), hre, if_neg (by simp), if_neg (by omega), if_neg (by decide), if_neg (by decide)]
end
structure RoomOk (F first more : Int) (S1 S2 S3 S4 S5 : Vset) (u3 u4 : Int) : Prop where
  c1 : (⟨⟨[], F, 0⟩, [], 3, 0⟩ : Vset).create 4096 = (S1, 1, 0)
  g1 : Good S1
  l1 : S1.last < 4611686018427387904
  c2 : S1.create 4096 = (S2, 2, 0)
  g2 : Good S2
  c3 : S2.op 1 1 0 (64 * first) = (S3, if first ≤ F then 0 else -4)
  g3 : Good S3
  v3 : u3 = if first ≤ F then first else 0
  c4 : S3.op 2 1 0 (64 * more) = (S4, if more ≤ F - u3 then 0 else -4)
  g4 : Good S4
  v4 : u4 = if more ≤ F - u3 then u3 + more else u3
  r4 : S4.pool.cap - S4.pool.used = F - u4
  c5 : S4.op 1 2 0 (64 * first) = (S5, 0)
  g5 : Good S5
  i5 : ∃ c1 c2 c4 c5, infoCells (S5.at_ 1) = #[i64 4096, i64 c1, i64 c2, i64 0, .bool c4, .bool c5] ∧ (S5.at_ 1).isSome = true
  r5 : S5.pool.cap - S5.pool.used = F - (u4 - u3)
theorem room_pure {F first more : Int} (h0 : 0 ≤ F) (h1 : F ≤ 30) (h2 : 0 ≤ first) (h3 : first ≤ 40) (h4 : 0 ≤ more) (h5 : more ≤ 40) (G0 : Good ⟨⟨[], F, 0⟩, [], 3, 0⟩) : ∃ S1 S2 S3 S4 S5 u3 u4, RoomOk F first more S1 S2 S3 S4 S5 u3 u4 := by
  have e4 : up64 4096 = 4096 := by decide
  obtain ⟨S1, c1, G1, M1, a1, _⟩ := G0.create (n := 4096) (by simp) (by simp) (by decide) (by decide)
  rw [show (⟨⟨[], F, 0⟩, [], 3, 0⟩ : Vset).last + 1 = 1 from rfl] at c1 M1 a1
  rw [e4] at a1 M1
  have p1 : S1.pool.cap = F ∧ S1.pool.used = 0 ∧ S1.last = 1 ∧ S1.most = 3 ∧ S1.objs.length = 1 := ⟨by rw [M1.pool], by rw [M1.pool], M1.last, M1.most, M1.len⟩
  obtain ⟨_, _, ne1⟩ := G1.freshId (by omega)
  obtain ⟨S2, c2, G2, M2, b2, _⟩ := G1.create (n := 4096) (by omega) (by omega) (by decide) (by decide)
  rw [show S1.last + 1 = 2 by omega] at c2 M2 b2 ne1
  rw [e4] at b2 M2
  have a2 := M2.keepHas ne1 a1
  have p2 : S2.pool.cap = F ∧ S2.pool.used = 0 := ⟨by rw [M2.pool]; exact p1.1, by rw [M2.pool]; exact p1.2.1⟩
  have s2 : Solo S2 := fun f => by rw [M2.refs, M1.refs]; simp [refs]
  have f21 : ∀ o, S2.at_ 1 = some o → o.frames = [] := fun o h => by
    rw [M2.at_, if_neg (by decide), M1.at_, if_pos rfl] at h
    simp at h
    rw [← h]
  have f22 : ∀ o, S2.at_ 2 = some o → o.frames = [] := fun o h => by
    rw [M2.at_, if_pos rfl] at h
    cases h; rfl
  have key : ∃ S3 fr u3, S2.op 1 1 0 (64 * first) = (S3, if first ≤ F then 0 else -4) ∧ Good S3 ∧ Solo S3 ∧ Alike S2 S3 ∧ S3.pool.cap = F ∧ S3.pool.used = u3 ∧ u3 = (if first ≤ F then first else 0) ∧ (∃ o : Vobj, S3.at_ 1 = some { o with frames := fr }) ∧
      (∀ x, (get fr x).isSome = (decide (first ≤ F) && decide (x ∈ touched 0 (64 * first)))) ∧ S3.at_ 2 = S2.at_ 2 := by
    rcases G2.op1 (n := 64 * first) a2 (by omega) (by omega) (by omega) (by omega) f21 s2 with ⟨r1, r2⟩ | ⟨r1, S3, fr, r2, r3, r4, r5, r6, r7, r8, r9, r10⟩
    · have hc : ¬ first ≤ F := by omega
      obtain ⟨o, q1, _⟩ := a2
      have hat := (vreach_facts q1).1
      refine ⟨S2, [], 0, by rw [r2, if_neg hc], G2, s2, Alike.refl _, p2.1, p2.2, by rw [if_neg hc], ⟨o, ?_⟩, fun x => by simp [get, hc], rfl⟩
      rw [hat]
      congr 1
      have := f21 o hat
      cases o
      simp only at this
      subst this
      rfl
    · have hc : first ≤ F := by omega
      exact ⟨S3, fr, first, by rw [r2, if_pos hc], r3, r4, r5, by omega, by omega, by rw [if_pos hc], r8, fun x => by rw [r9]; simp [hc], r10 2 (by decide)⟩
  obtain ⟨S3, fr3, u3, c3, G3, s3, A3, cp3, us3, v3, ⟨o3, at3⟩, hk3, e32⟩ := key
  have a3 := A3.keepHas a2
  have b3 := A3.keepHas b2
  have u3b : 0 ≤ u3 ∧ u3 ≤ F := by rw [v3]; split <;> omega
  have key2 : ∃ S4 u4, S3.op 2 1 0 (64 * more) = (S4, if more ≤ F - u3 then 0 else -4) ∧ Good S4 ∧ Solo S4 ∧ Alike S3 S4 ∧ S4.pool.cap = F ∧ S4.pool.used = u4 ∧ u4 = (if more ≤ F - u3 then u3 + more else u3) ∧ S4.at_ 1 = S3.at_ 1 := by
    rcases G3.op1 (n := 64 * more) b3 (by omega) (by omega) (by omega) (by omega) (by rw [e32]; exact f22) s3 with ⟨r1, r2⟩ | ⟨r1, S4, fr, r2, r3, r4, r5, r6, r7, _, _, r10⟩
    · have hc : ¬ more ≤ F - u3 := by omega
      exact ⟨S3, u3, by rw [r2, if_neg hc], G3, s3, Alike.refl _, cp3, us3, by rw [if_neg hc], rfl⟩
    · have hc : more ≤ F - u3 := by omega
      exact ⟨S4, u3 + more, by rw [r2, if_pos hc], r3, r4, r5, by omega, by omega, by rw [if_pos hc], r10 1 (by decide)⟩
  obtain ⟨S4, u4, c4, G4, s4, A4, cp4, us4, v4, e41⟩ := key2
  have a4 := A4.keepHas a3
  have c5 := op2_eq (n := 64 * first) a4 (by omega) (by omega) (by omega) (by omega)
  have at4 : S4.at_ 1 = some { o3 with frames := fr3 } := by rw [e41, at3]
  have hsl : ({ o3 with frames := fr3 } : Vobj).slice = false ∧ ({ o3 with frames := fr3 } : Vobj).size = 4096 := by
    obtain ⟨o, q1, q2, q3, _⟩ := a4
    have := (vreach_facts q1).1
    rw [at4] at this
    cases this
    exact ⟨q3, q2⟩
  have hlen : ((touched 0 (64 * first)).length : Int) = first := by rw [touched_len]; unfold npages; split <;> omega
  have key3 : ∃ S5 fr, S4.releases 1 (touched 0 (64 * first)) = S5 ∧ Good S5 ∧ S5.pool.cap = F ∧ S5.pool.used = u4 - u3 ∧ S5.at_ 1 = some { o3 with frames := fr } ∧ fr = [] := by
    by_cases hc : first ≤ F
    · obtain ⟨S5, fr, r1, r2, r3, r4, r5, r6, r7, r8⟩ := Good.releasesAll (touched 0 (64 * first)) G4 s4 at4 hsl.1 (touched_nodup _ _) (fun p hp => by simp only; rw [hk3]; simp [hc, hp])
      refine ⟨S5, fr, r1, r2, by omega, by rw [if_pos hc] at v3; omega, r5, frames_nil (fun x => ?_)⟩
      rw [r8]
      split
      · rfl
      · rename_i hx
        have := hk3 x
        simp [hx] at this
        exact this
    · have hnone : ∀ x, get fr3 x = none := fun x => by have := hk3 x; simp [hc] at this; exact this
      refine ⟨S4, fr3, releases_none _ at4 (fun p _ => hnone p), G4, cp4, by rw [if_neg hc] at v3; omega, at4, frames_nil hnone⟩
  obtain ⟨S5, fr5, e5, G5, cp5, us5, at5, hf5⟩ := key3
  rw [e5] at c5
  refine ⟨S1, S2, S3, S4, S5, u3, u4, c1, G1, by omega, c2, G2, c3, G3, v3, c4, G4, v4, by omega, c5, G5, ?_, by omega⟩
  rw [at5]
  subst hf5
  refine ⟨o3.parent, o3.kids.length, o3.slice, o3.dropped, ?_, rfl⟩
  simp only [infoCells]
  rw [show o3.size = 4096 from hsl.2]
  rfl
end Go.Proofs.Ytkifgoadbnpofaa
