/- The invariant of a set of objects of memory behind an object more; windows and snapshots, without memory. -/
import Derived.Test.YtkifgoadbnpofaaVmoGood
import Derived.Test.YtkifgoadbnpofaaVmoPure2
import Derived.Test.YtkifgoadbnpofaaVmoJ
namespace Go.Proofs.Ytkifgoadbnpofaa
open Go Go.RowKit

theorem numbered_len' (l : List Int) : (numbered l).length = l.length := by simp [numbered]
theorem numbered_take' {l : List Int} {k : Nat} (h : k < l.length) : (numbered l).take (k + 1) = (numbered l).take k ++ [((k : Int), nth l k)] := by
  rw [List.take_succ_eq_append_getElem (by rw [numbered_len']; exact h)]
  congr 1
  simp [numbered, nth]
section
variable {S : Vset}
theorem mem_at (nd : (S.objs.map (·.1)).Nodup) {p : Int × Vobj} : p ∈ S.objs ↔ S.at_ p.1 = some p.2 :=
  ⟨fun h => get_of_mem nd h, fun h => get_mem h⟩
theorem Good.freshId (G : Good S) (hl : S.last < 4611686018427387904) : wrap64 (S.last + 1) = S.last + 1 ∧ S.at_ (S.last + 1) = none ∧ ∀ k o, S.at_ k = some o → k ≠ S.last + 1 := by
  have h0 := G.last0
  have h1 : ∀ k o, S.at_ k = some o → k ≠ S.last + 1 := fun k o h e => by
    have := G.key _ (G.mem h)
    simp only at this
    omega
  refine ⟨w64 (by omega) (by omega), ?_, h1⟩
  cases h : S.at_ (S.last + 1) with
  | none => rfl
  | some o => exact absurd rfl (h1 _ _ h)
theorem Good.at0 (G : Good S) : S.at_ 0 = none := by
  cases h : S.at_ 0 with
  | none => rfl
  | some o => have := G.key _ (G.mem h); simp only at this; omega

/-- The set with one object more, the last one. -/
structure More (S S' : Vset) (id : Int) (o : Vobj) : Prop where
  pool : S'.pool = S.pool
  most : S'.most = S.most
  last : S'.last = id
  nd : (S'.objs.map (·.1)).Nodup
  len : S'.objs.length = S.objs.length + 1
  refs : ∀ f, refs S'.objs f = refs S.objs f
  at_ : ∀ k, S'.at_ k = if k = id then some o else (S.at_ k).map fun q => if k = o.parent then { q with kids := q.kids ++ [id] } else q
theorem len_put_some {L : List (Int × Vobj)} {k : Int} {v : Vobj} (h : (get L k).isSome = true) : (put L k v).length = L.length := by
  have := congrArg List.length (keys_put_some L k v h)
  simpa using this
theorem Good.add_more (G : Good S) (hl : S.last < 4611686018427387904) (hfull : ¬ S.most ≤ S.objs.length) {o : Vobj} (hf : o.frames = []) (hp : o.parent = 0 ∨ ∃ up, S.at_ o.parent = some up) :
    ∃ S', S.add o = (S', S.last + 1, 0) ∧ More S S' (S.last + 1) o := by
  obtain ⟨hw, hn, hne⟩ := G.freshId hl
  have hpn : o.parent ≠ S.last + 1 := by
    rcases hp with h | ⟨up, h⟩
    · have := G.last0; omega
    · exact hne _ _ h
  rw [Vset.add_ok hfull hw.symm hpn]
  have hlen1 : (put S.objs (S.last + 1) o).length = S.objs.length + 1 := by rw [put_of_none _ _ _ hn]; simp
  have hrefs1 : ∀ f, refs (put S.objs (S.last + 1) o) f = refs S.objs f := fun f => by rw [refs_put_none hn, hf]; simp [cnt]
  cases hg : S.at_ o.parent with
  | none =>
    refine ⟨_, rfl, rfl, rfl, rfl, nodup_put G.nd _ _, hlen1, hrefs1, fun k => ?_⟩
    show get (put S.objs _ o) k = _
    rw [get_put]
    by_cases e : k = S.last + 1
    · rw [if_pos e.symm, if_pos e]
    · rw [if_neg (fun h => e h.symm), if_neg e]
      show S.at_ k = _
      cases hk : S.at_ k with
      | none => rfl
      | some q =>
        have : k ≠ o.parent := by rintro rfl; rw [hk] at hg; cases hg
        simp [this]
  | some up =>
    have hup : get (put S.objs (S.last + 1) o) o.parent = some up := by rw [get_put, if_neg (fun h => hpn h.symm)]; exact hg
    refine ⟨_, rfl, rfl, rfl, rfl, nodup_put (nodup_put G.nd _ _) _ _, ?_, fun f => ?_, fun k => ?_⟩
    · show (put (put S.objs (S.last + 1) o) o.parent _).length = _
      rw [len_put_some (by rw [hup]; rfl), hlen1]
    · show refs (put (put S.objs (S.last + 1) o) o.parent _) f = _
      rw [refs_put_some hup, ← hrefs1 f, ← refs_del hup f]
    · show get (put (put S.objs (S.last + 1) o) o.parent _) k = _
      rw [get_put]
      by_cases e : k = S.last + 1
      · subst e
        rw [if_neg hpn, get_put, if_pos rfl, if_pos rfl]
      · rw [if_neg e]
        by_cases e2 : k = o.parent
        · subst e2
          rw [if_pos rfl, hg]; simp
        · rw [if_neg (fun h => e2 h.symm), get_put, if_neg (fun h => e h.symm)]
          show S.at_ k = _
          cases S.at_ k with
          | none => rfl
          | some q => simp [e2]
theorem Good.more (G : Good S) (hl : S.last < 4611686018427387904) (hfull : ¬ S.most ≤ S.objs.length) {S' : Vset} {o : Vobj} (M : More S S' (S.last + 1) o) (hk : o.kids = []) (hf : o.frames = []) (hd : o.dropped = false)
    (hsz : 0 ≤ o.size ∧ o.size ≤ 4294967296 ∧ o.size % 64 = 0) (hpar : o.parent = 0 ∨ ∃ up, S.at_ o.parent = some up)
    (hs : o.slice = true → ∃ u, S.at_ o.parent = some u ∧ o.depth = u.depth + 1 ∧ 0 ≤ o.from_ ∧ o.from_ % 64 = 0 ∧ o.from_ + o.size ≤ u.size ∧ u.depth < 16) (hfl : o.slice = false → o.depth = 0) : Good S' := by
  obtain ⟨_, hn, hne⟩ := G.freshId hl
  have h0 := G.last0
  have hat : ∀ k q', S'.at_ k = some q' → (k = S.last + 1 ∧ q' = o) ∨ (k ≠ S.last + 1 ∧ ∃ q, S.at_ k = some q ∧ q' = { q with kids := q'.kids } ∧ q'.kids = if k = o.parent then q.kids ++ [S.last + 1] else q.kids) := by
    intro k q' h
    rw [M.at_] at h
    by_cases e : k = S.last + 1
    · rw [if_pos e] at h; cases h; exact .inl ⟨e, rfl⟩
    · rw [if_neg e] at h
      cases hq : S.at_ k with
      | none => rw [hq] at h; cases h
      | some q =>
        rw [hq] at h
        simp only [Option.map_some, Option.some.injEq] at h
        refine .inr ⟨e, q, rfl, ?_, ?_⟩
        · rw [← h]; split <;> rfl
        · rw [← h]; split <;> rfl
  have hold : ∀ k q, S.at_ k = some q → ∃ q', S'.at_ k = some q' ∧ q' = { q with kids := q'.kids } := by
    intro k q h
    rw [M.at_, if_neg (hne _ _ h), h]
    simp only [Option.map_some, Option.some.injEq, exists_eq_left']
    split <;> rfl
  have hmem : ∀ p ∈ S'.objs, S'.at_ p.1 = some p.2 := fun p hp => get_of_mem M.nd hp
  refine ⟨by rw [M.pool]; exact G.pool.of_eq (fun f => (M.refs f).symm), M.nd, by rw [M.most]; exact G.most0, by rw [M.most]; exact G.most1, by rw [M.most, M.len]; omega, by rw [M.last]; omega, ?_, ?_, ?_, ?_, ?_, ?_, ?_, ?_, ?_, ?_, ?_⟩
  · intro p hp
    rw [M.last]
    rcases hat _ _ (hmem p hp) with ⟨e, _⟩ | ⟨_, q, hq, _⟩
    · omega
    · have := G.key _ (G.mem hq); simp only at this; omega
  · intro p hp
    rcases hat _ _ (hmem p hp) with ⟨e, e2⟩ | ⟨_, q, hq, e, _⟩
    · rw [e2]; exact hsz
    · rw [e]; exact G.size _ (G.mem hq)
  · intro p hp
    rcases hat _ _ (hmem p hp) with ⟨e, e2⟩ | ⟨_, q, hq, e, _⟩
    · rw [e2, hf]; simp
    · rw [e]; exact G.fnd _ (G.mem hq)
  · intro p hp
    rcases hat _ _ (hmem p hp) with ⟨e, e2⟩ | ⟨_, q, hq, e, _⟩
    · rw [e2, hf]; simp
    · rw [e]; exact G.fkey _ (G.mem hq)
  · intro p hp hsl
    rcases hat _ _ (hmem p hp) with ⟨e, e2⟩ | ⟨_, q, hq, e, _⟩
    · rw [e2] at hsl ⊢
      obtain ⟨u, hu, h1, h2, h3, h4, _⟩ := hs hsl
      obtain ⟨u', hu', eu⟩ := hold _ _ hu
      exact ⟨hf, u', hu', by rw [eu]; exact h1, h2, h3, by rw [eu]; exact h4⟩
    · rw [e] at hsl ⊢
      obtain ⟨h1, u, hu, h2⟩ := G.sl _ (G.mem hq) hsl
      obtain ⟨u', hu', eu⟩ := hold _ _ hu
      exact ⟨h1, u', hu', by rw [eu]; exact h2⟩
  · intro p hp hsl
    rcases hat _ _ (hmem p hp) with ⟨e, e2⟩ | ⟨_, q, hq, e, _⟩
    · rw [e2] at hsl ⊢; exact hfl hsl
    · rw [e] at hsl ⊢; exact G.flat _ (G.mem hq) hsl
  · intro p hp
    rcases hat _ _ (hmem p hp) with ⟨e, e2⟩ | ⟨_, q, hq, e, _⟩
    · rw [e2]
      cases hsl : o.slice with
      | false => have := hfl hsl; omega
      | true =>
        obtain ⟨u, hu, h1, _, _, _, h2⟩ := hs hsl
        have := G.depth _ (G.mem hu)
        simp only at this
        omega
    · rw [e]; exact G.depth _ (G.mem hq)
  · intro p hp
    rcases hat _ _ (hmem p hp) with ⟨e, e2⟩ | ⟨_, q, hq, e, _⟩
    · rw [e2, e]
      rcases hpar with h | ⟨up, h⟩
      · exact .inl h
      · obtain ⟨u', hu', _⟩ := hold _ _ h
        have := G.key _ (G.mem h)
        simp only at this
        exact .inr ⟨by rw [hu']; rfl, by omega, by omega⟩
    · rw [e]
      simp only
      rcases G.par _ (G.mem hq) with h | ⟨h1, h2⟩
      · exact .inl h
      · obtain ⟨u, hu⟩ := Option.isSome_iff_exists.1 h1
        obtain ⟨u', hu', _⟩ := hold _ _ hu
        exact .inr ⟨by rw [hu']; rfl, h2⟩
  · intro p hp c
    have key : ∀ (k : Int) (q : Vobj), (∃ r, S'.at_ c = some r ∧ r.parent = k) ↔ (c = S.last + 1 ∧ o.parent = k) ∨ (∃ r, S.at_ c = some r ∧ r.parent = k) := by
      intro k _
      constructor
      · rintro ⟨r, hr, e⟩
        rcases hat _ _ hr with ⟨e1, e2⟩ | ⟨_, q, hq, e1, _⟩
        · exact .inl ⟨e1, by rw [← e2]; exact e⟩
        · exact .inr ⟨q, hq, by rw [e1] at e; exact e⟩
      · rintro (⟨rfl, e⟩ | ⟨r, hr, e⟩)
        · exact ⟨o, by rw [M.at_, if_pos rfl], e⟩
        · obtain ⟨r', hr', er⟩ := hold _ _ hr
          exact ⟨r', hr', by rw [er]; exact e⟩
    rw [key p.1 o]
    rcases hat _ _ (hmem p hp) with ⟨e, e2⟩ | ⟨_, q, hq, e, e3⟩
    · rw [e2, hk, e]
      simp only [List.not_mem_nil, false_iff, not_or, not_and, not_exists]
      refine ⟨fun _ h => ?_, fun r hr h => ?_⟩
      · rcases hpar with h' | ⟨up, h'⟩
        · omega
        · exact hne _ _ h' h
      · rcases G.par _ (G.mem hr) with h' | ⟨h1, h2⟩
        · simp only at h'; omega
        · simp only at h1 h2
          obtain ⟨u, hu⟩ := Option.isSome_iff_exists.1 h1
          exact hne _ _ hu h
    · rw [e3]
      have hkq := G.kids _ (G.mem hq) c
      simp only at hkq
      by_cases ep : p.1 = o.parent
      · rw [if_pos ep, List.mem_append, List.mem_singleton, hkq]
        constructor
        · rintro (h | h)
          · exact .inr h
          · exact .inl ⟨h, ep.symm⟩
        · rintro (⟨h, _⟩ | h)
          · exact .inr h
          · exact .inl h
      · rw [if_neg ep, hkq]
        constructor
        · exact .inr
        · rintro (⟨_, h⟩ | h)
          · exact absurd h.symm ep
          · exact h
  · intro p hp
    rcases hat _ _ (hmem p hp) with ⟨e, e2⟩ | ⟨_, q, hq, e, e3⟩
    · rw [e2, hk]; simp
    · rw [e3]
      have h1 := G.knd _ (G.mem hq)
      simp only at h1
      split
      · refine List.nodup_append.2 ⟨h1, by simp, fun a ha b hb hab => ?_⟩
        simp at hb
        subst hb; subst hab
        obtain ⟨r, hr, _⟩ := (G.kids _ (G.mem hq) _).1 ha
        exact hne _ _ hr rfl
      · exact h1
  · intro p hp hdr
    rcases hat _ _ (hmem p hp) with ⟨e, e2⟩ | ⟨_, q, hq, e, e3⟩
    · rw [e2, hd] at hdr; cases hdr
    · rw [e3]
      rw [e] at hdr
      have := G.gone _ (G.mem hq) hdr
      split
      · simp
      · exact this
end
end Go.Proofs.Ytkifgoadbnpofaa
