/- Creating, slicing and taking snapshots, without memory: what every object's bytes are behind it. -/
import Derived.Test.YtkifgoadbnpofaaVmoGood2
namespace Go.Proofs.Ytkifgoadbnpofaa
open Go Go.RowKit

section
variable {S S' : Vset}
theorem base_shift (d : Int) : ∀ (n : Nat) (id fr : Int), S.base n id (fr + d) = ((S.base n id fr).1, (S.base n id fr).2 + d)
  | 0, _, _ => rfl
  | n + 1, id, fr => by
    unfold Vset.base
    cases S.at_ id with
    | none => rfl
    | some o =>
      simp only
      split
      · rw [show fr + d + o.from_ = fr + o.from_ + d by omega]; exact base_shift d n _ _
      · rfl
theorem Good.base_fuel (G : Good S) : ∀ (n m : Nat) {id : Int} {o : Vobj} (fr : Int), S.at_ id = some o → o.depth ≤ n → o.depth ≤ m → S.base n id fr = S.base m id fr := by
  intro n
  induction n with
  | zero =>
    intro m id o fr h hn hm
    cases hs : o.slice with
    | false => rw [base_flat h hs, base_flat h hs]
    | true =>
      obtain ⟨_, u, hu, he, _⟩ := G.sl _ (G.mem h) hs
      have := (G.depth _ (G.mem hu)).1
      simp only at he this
      omega
  | succ n ih =>
    intro m id o fr h hn hm
    cases hs : o.slice with
    | false => rw [base_flat h hs, base_flat h hs]
    | true =>
      obtain ⟨_, u, hu, he, _⟩ := G.sl _ (G.mem h) hs
      have h0 := (G.depth _ (G.mem hu)).1
      simp only at he h0 hu
      cases m with
      | zero => omega
      | succ m =>
        unfold Vset.base
        rw [h]
        simp only [hs, if_true]
        exact ih m _ hu (by omega) (by omega)
theorem More.base {id : Int} {o : Vobj} (M : More S S' id o) (G : Good S) (hne : ∀ k q, S.at_ k = some q → k ≠ id) : ∀ (n : Nat) (k fr : Int), (S.at_ k).isSome = true → S'.base n k fr = S.base n k fr
  | 0, _, _, _ => rfl
  | n + 1, k, fr, h => by
    obtain ⟨q, hq⟩ := Option.isSome_iff_exists.1 h
    unfold Vset.base
    rw [M.at_, if_neg (hne _ _ hq), hq]
    simp only [Option.map_some]
    have e : ∀ q' : Vobj, (if k = o.parent then { q' with kids := q'.kids ++ [id] } else q').slice = q'.slice ∧ (if k = o.parent then { q' with kids := q'.kids ++ [id] } else q').parent = q'.parent ∧ (if k = o.parent then { q' with kids := q'.kids ++ [id] } else q').from_ = q'.from_ := fun q' => by split <;> exact ⟨rfl, rfl, rfl⟩
    rw [(e q).1, (e q).2.1, (e q).2.2]
    cases hs : q.slice with
    | false => rfl
    | true =>
      simp only [if_true]
      obtain ⟨_, u, hu, _⟩ := G.sl _ (G.mem hq) hs
      exact More.base M G hne n _ _ (by simp only at hu; rw [hu]; rfl)
theorem More.byte {id : Int} {o : Vobj} (M : More S S' id o) {k : Int} (hk : k ≠ id) (x : Int) : S'.byte k x = S.byte k x := by
  unfold Vset.byte
  rw [M.at_, if_neg hk]
  cases S.at_ k with
  | none => rfl
  | some q =>
    simp only [Option.map_some]
    rw [M.pool]
    split <;> rfl
theorem More.view {id : Int} {o : Vobj} (M : More S S' id o) (G : Good S) (hne : ∀ k q, S.at_ k = some q → k ≠ id) {k : Int} (hk : (S.at_ k).isSome = true) (x : Int) : S'.view k x = S.view k x := by
  obtain ⟨q, hq⟩ := Option.isSome_iff_exists.1 hk
  obtain ⟨ob, b1, _⟩ := G.base_in hq
  unfold Vset.view
  rw [M.base G hne _ _ _ hk, M.byte (hne _ _ b1)]
theorem More.find {id : Int} {o : Vobj} (M : More S S' id o) (hne : ∀ k q, S.at_ k = some q → k ≠ id) {k : Int} {q : Vobj} (h : S.find k = some q) : S'.find k = some (if k = o.parent then { q with kids := q.kids ++ [id] } else q) := by
  obtain ⟨h1, h2⟩ := vreach_facts h
  unfold Vset.find
  rw [M.at_, if_neg (hne _ _ h1), h1]
  simp only [Option.map_some, Option.bind_some]
  split <;> simp [h2]
theorem More.find_new {id : Int} {o : Vobj} (M : More S S' id o) (hd : o.dropped = false) : S'.find id = some o := by
  unfold Vset.find
  rw [M.at_, if_pos rfl]
  simp [hd]

/-- An object of that size, that is a slice or not, of that depth. -/
def Has (S : Vset) (id size : Int) (sl : Bool) (d : Int) : Prop := ∃ o, S.find id = some o ∧ o.size = size ∧ o.slice = sl ∧ o.depth = d
theorem Alike.keepHas (A : Alike S S') {id size d : Int} {sl : Bool} (h : Has S id size sl d) : Has S' id size sl d := by
  obtain ⟨o, h1, h2, h3, h4⟩ := h
  obtain ⟨fr, h'⟩ := A.find h1
  exact ⟨_, h', h2, h3, h4⟩
theorem More.keepHas {id : Int} {o : Vobj} (M : More S S' id o) (hne : ∀ k q, S.at_ k = some q → k ≠ id) {k size d : Int} {sl : Bool} (h : Has S k size sl d) : Has S' k size sl d := by
  obtain ⟨q, h1, h2, h3, h4⟩ := h
  refine ⟨_, M.find hne h1, ?_, ?_, ?_⟩ <;> (split <;> assumption)
theorem Has.at_ {id size d : Int} {sl : Bool} (h : Has S id size sl d) : (S.at_ id).isSome = true := by
  obtain ⟨o, h1, _⟩ := h
  rw [(vreach_facts h1).1]; rfl

/-- A new object of its own. -/
theorem Good.create (G : Good S) (hl : S.last < 4611686018427387904) (hfull : ¬ S.most ≤ S.objs.length) {n : Int} (h0 : 0 ≤ n) (h1 : n ≤ 4294967296) :
    ∃ S', S.create n = (S', S.last + 1, 0) ∧ Good S' ∧ More S S' (S.last + 1) ⟨up64 n, 0, [], [], false, 0, 0, false⟩ ∧ Has S' (S.last + 1) (up64 n) false 0 ∧ ∀ x, S'.view (S.last + 1) x = 0 := by
  have hs : sizeUp n = (up64 n, 0) := by unfold sizeUp; rw [if_neg (by omega), if_neg (by omega)]
  have hu : 0 ≤ up64 n ∧ up64 n ≤ 4294967296 ∧ up64 n % 64 = 0 := by unfold up64; omega
  obtain ⟨S', e, M⟩ := G.add_more hl hfull (o := ⟨up64 n, 0, [], [], false, 0, 0, false⟩) rfl (.inl rfl)
  refine ⟨S', ?_, G.more hl hfull M rfl rfl rfl hu (.inl rfl) (fun h => by cases h) (fun _ => rfl), M, ⟨_, M.find_new rfl, rfl, rfl, rfl⟩, fun x => ?_⟩
  · unfold Vset.create
    rw [hs]
    simp only [ne_eq, not_true_eq_false, if_false]
    exact e
  · have hat : S'.at_ (S.last + 1) = some ⟨up64 n, 0, [], [], false, 0, 0, false⟩ := by rw [M.at_, if_pos rfl]
    unfold Vset.view
    rw [base_flat hat rfl]
    unfold Vset.byte byteAt pg
    rw [hat]
    simp only [get, zeros, List.getD_eq_getElem?_getD, List.getElem?_replicate]
    split <;> rfl
/-- A window. -/
theorem Good.sliced (G : Good S) (hl : S.last < 4611686018427387904) (hfull : ¬ S.most ≤ S.objs.length) {id a n size d : Int} {sl : Bool} (h : Has S id size sl d) (ha : 0 ≤ a) (hn : 0 ≤ n) (ha1 : a % 64 = 0) (hn1 : n % 64 = 0) (hin : a + n ≤ size) (hd : d < 16) :
    ∃ S' o, S.slice id a n = (S', S.last + 1, 0) ∧ Good S' ∧ More S S' (S.last + 1) o ∧ Has S' (S.last + 1) n true (d + 1) ∧ S'.base Vset.fuel (S.last + 1) 0 = ((S.base Vset.fuel id 0).1, (S.base Vset.fuel id 0).2 + a) ∧ ∀ x, S'.view (S.last + 1) x = S.view id (a + x) := by
  obtain ⟨q, hf, e1, e2, e3⟩ := h
  obtain ⟨hat, _⟩ := vreach_facts hf
  obtain ⟨_, hnn, hne⟩ := G.freshId hl
  have hqs := G.size _ (G.mem hat)
  simp only at hqs
  have hw : S.window id a n = 0 := by
    unfold Vset.window
    rw [hf]
    simp only
    rw [if_neg (by omega), if_pos (by simp [inside]; omega)]
  obtain ⟨S', e, M⟩ := G.add_more hl hfull (o := ⟨n, id, [], [], true, a, q.depth + 1, false⟩) rfl (.inr ⟨_, hat⟩)
  have G' := G.more hl hfull M rfl rfl rfl ⟨hn, by simp only; omega, hn1⟩ (.inr ⟨_, hat⟩) (fun _ => ⟨q, hat, rfl, ha, ha1, by simp only; omega, by omega⟩) (fun h => by cases h)
  have hat' : S'.at_ (S.last + 1) = some ⟨n, id, [], [], true, a, q.depth + 1, false⟩ := by rw [M.at_, if_pos rfl]
  have hdq := G.depth _ (G.mem hat)
  simp only at hdq
  have e4 : S'.base Vset.fuel (S.last + 1) 0 = ((S.base Vset.fuel id 0).1, (S.base Vset.fuel id 0).2 + a) := by
    rw [show Vset.fuel = 19 + 1 from rfl]
    conv => lhs; unfold Vset.base
    rw [hat']
    simp only [if_true]
    rw [M.base G hne 19 id _ (by rw [hat]; rfl), base_shift a 19 id 0, G.base_fuel 19 20 0 hat (by omega) (by omega)]
  refine ⟨S', _, ?_, G', M, ⟨_, M.find_new rfl, rfl, rfl, by simp only; omega⟩, e4, fun x => ?_⟩
  · unfold Vset.slice
    rw [if_neg (by simp [hw]), hat]
    simp only
    rw [if_neg (by omega)]
    exact e
  · unfold Vset.view
    rw [e4]
    simp only
    obtain ⟨ob, b1, _⟩ := G.base_in hat
    rw [M.byte (hne _ _ b1), Int.add_assoc]

/- SNAPSHOTS -/
theorem nth_touched {a n : Int} {k : Nat} (h : k < (touched a n).length) : nth (touched a n) k = a / 64 + (k : Int) := by
  rw [nth_get h]; simp [touched]
theorem share_fold {q0 : Pool} {Ro : Int → Nat} {fr : List (Int × Int)} (T : List Int) (hR : ∀ p f, get fr p = some f → 0 < Ro f) (hsm : ∀ f, Ro f ≤ 8796093022208) (hT : T.length ≤ 65536) (I : PInv q0 Ro) :
    ∀ k, k ≤ T.length → ∃ q st, ((numbered T).take k).foldl (share1 fr) (q0, []) = (q, st) ∧ CInv q Ro st ∧ q.cap = q0.cap ∧ q.used = q0.used ∧ (∀ h, q.dat h = q0.dat h) ∧
      (∀ i : Int, get st i = if 0 ≤ i ∧ i < k then get fr (nth T i.toNat) else none) ∧ ∀ f, cnt st f ≤ k
  | 0, _ => ⟨q0, [], rfl, ⟨I.of_eq (fun f => by simp [cnt]), by simp, fun f => by have := hsm f; simp [cnt]; omega⟩, rfl, rfl, fun _ => rfl, fun i => by simp [get]; intro _ _; omega, fun f => by simp [cnt]⟩
  | k + 1, hk => by
    obtain ⟨q, st, e, C, hc, hu, hd, hg, hct⟩ := share_fold T hR hsm hT I k (by omega)
    rw [numbered_take' (by omega), List.foldl_append, e]
    simp only [List.foldl_cons, List.foldl_nil]
    cases hp : get fr (nth T k) with
    | none =>
      refine ⟨q, st, by simp [share1, hp], C, hc, hu, hd, fun i => ?_, fun f => by have := hct f; omega⟩
      rw [hg]
      by_cases h1 : 0 ≤ i ∧ i < (k : Int)
      · rw [if_pos h1, if_pos (by omega)]
      · rw [if_neg h1]
        by_cases h2 : i = k
        · subst h2
          rw [if_pos (by omega), Int.toNat_natCast, hp]
        · rw [if_neg (by omega)]
    | some f =>
      have hRf := hR _ _ hp
      have hsf := hsm f
      have hcf := hct f
      obtain ⟨_, I', h1, h2, h3⟩ := C.inv.share (f := f) (by show 0 < Ro f + cnt st f; omega) (by show Ro f + cnt st f ≤ _; omega)
      have hgk : get st (k : Int) = none := by rw [hg, if_neg (by omega)]
      refine ⟨(q.share f).1, put st (k : Int) f, by simp [share1, hp], ⟨I'.of_eq (fun x => ?_), nodup_put C.nd _ _, fun x => ?_⟩, h1.trans hc, h2.trans hu, fun x => (h3 x).trans (hd x), fun i => ?_, fun x => ?_⟩
      · rw [cnt_put_none hgk]
        show (if x = f then (Ro x + cnt st x) + 1 else Ro x + cnt st x) = _
        split <;> omega
      · rw [cnt_put_none hgk]
        have := hct x
        have := hsm x
        split <;> omega
      · rw [get_put]
        by_cases h1 : (k : Int) = i
        · subst h1
          rw [if_pos rfl, if_pos (by omega), Int.toNat_natCast, hp]
        · rw [if_neg h1, hg]
          by_cases h2 : 0 ≤ i ∧ i < (k : Int)
          · rw [if_pos h2, if_pos (by omega)]
          · rw [if_neg h2, if_neg (by omega)]
      · rw [cnt_put_none hgk]
        have := hct x
        split <;> omega
/-- A child of its own. -/
theorem Good.snapped (G : Good S) (hl : S.last < 4611686018427387904) (hfull : ¬ S.most ≤ S.objs.length) {id a n size d : Int} (h : Has S id size false d) (ha : 0 ≤ a) (hn : 0 ≤ n) (ha1 : a % 64 = 0) (hn1 : n % 64 = 0) (hin : a + n ≤ size) (hn2 : n ≤ 4096) :
    ∃ S' S1 o, S.snapshot id a n = (S', S.last + 1, 0) ∧ Good S' ∧ Good S1 ∧ More S S1 (S.last + 1) o ∧ Alike S1 S' ∧ S'.pool.cap = S.pool.cap ∧ S'.pool.used = S.pool.used ∧ Has S' (S.last + 1) n false 0 ∧
      (∀ k x, (S.at_ k).isSome = true → S'.view k x = S.view k x) ∧ ∀ x, 0 ≤ x → x < n → S'.view (S.last + 1) x = S.view id (a + x) := by
  obtain ⟨q, hf, e1, e2, e3⟩ := h
  obtain ⟨hat, _⟩ := vreach_facts hf
  obtain ⟨_, hnn, hne⟩ := G.freshId hl
  have hqs := G.size _ (G.mem hat)
  simp only at hqs
  have hw : S.window id a n = 0 := by
    unfold Vset.window
    rw [hf]
    simp only
    rw [if_neg (by omega), if_pos (by simp [inside]; omega)]
  obtain ⟨S1, e, M⟩ := G.add_more hl hfull (o := ⟨n, id, [], [], false, 0, 0, false⟩) rfl (.inr ⟨_, hat⟩)
  have G1 := G.more hl hfull M rfl rfl rfl ⟨hn, by simp only; omega, hn1⟩ (.inr ⟨_, hat⟩) (fun h => by cases h) (fun _ => rfl)
  have hat1 : S1.at_ (S.last + 1) = some ⟨n, id, [], [], false, 0, 0, false⟩ := by rw [M.at_, if_pos rfl]
  have hT : (touched a n).length ≤ 65536 := by rw [touched_len]; unfold npages; split <;> omega
  have hTn : ((touched a n).length : Int) = n / 64 := by rw [touched_len]; unfold npages; split <;> omega
  have hR : ∀ p f, get q.frames p = some f → 0 < refs (del S1.objs (S.last + 1)) f := fun p f h => by
    have h1 := refs_del hat1 f
    have h2 := refs_del hat f
    have h3 := cnt_pos h
    have h4 := M.refs f
    have h5 : cnt (⟨n, id, [], [], false, 0, 0, false⟩ : Vobj).frames f = 0 := rfl
    omega
  have hRo : ∀ f, refs S1.objs f = refs (del S1.objs (S.last + 1)) f := fun f => by
    have h1 := refs_del hat1 f
    have h5 : cnt (⟨n, id, [], [], false, 0, 0, false⟩ : Vobj).frames f = 0 := rfl
    omega
  obtain ⟨p, st, ef, C, hc, hu, hd, hg, _⟩ := share_fold (q0 := S.pool) (fr := q.frames) (touched a n) hR (fun f => by rw [← hRo]; exact G1.refs_small f) hT (by rw [← M.pool]; exact G1.pool.of_eq hRo) _ (Nat.le_refl _)
  rw [← numbered_len' (touched a n), List.take_length] at ef
  have hkeys : ∀ x ∈ st, 0 ≤ x.1 ∧ x.1 < (⟨n, id, [], [], false, 0, 0, false⟩ : Vobj).size / 64 := fun x hx => by
    have h1 := mem_get C.nd hx
    rw [hg] at h1
    split at h1
    · simp only; omega
    · cases h1
  have A := Vset.with_alike hat1 (p, st)
  refine ⟨S1.with (S.last + 1) ⟨n, id, [], [], false, 0, 0, false⟩ (p, st), S1, _, ?_, G1.with hat1 rfl C hkeys, G1, M, A, hc, hu, A.keepHas ⟨_, M.find_new rfl, rfl, rfl, rfl⟩, fun k x hk => ?_, fun x hx0 hx1 => ?_⟩
  · unfold Vset.snapshot
    rw [if_neg (by simp [hw]), hat]
    simp only [e2, Bool.false_eq_true, if_false]
    rw [if_neg (by omega), e]
    simp only [ne_eq, not_true_eq_false, if_false]
    rw [M.pool, ef]
    rfl
  · obtain ⟨q', hq'⟩ := Option.isSome_iff_exists.1 hk
    obtain ⟨ob, b1, _⟩ := G.base_in hq'
    rw [← M.view G hne hk]
    unfold Vset.view
    rw [A.base, M.base G hne _ _ _ hk]
    generalize S.base Vset.fuel k 0 = B at *
    unfold Vset.byte
    rw [Vset.with_get, if_neg (fun h => hne _ _ b1 h.symm)]
    cases S1.at_ B.1 with
    | none => rfl
    | some r =>
      simp only
      unfold byteAt pg
      cases get r.frames ((B.2 + x) / 64) with
      | none => rfl
      | some f =>
        simp only
        rw [show (S1.with (S.last + 1) ⟨n, id, [], [], false, 0, 0, false⟩ (p, st)).pool = p from rfl, hd, M.pool]
  · unfold Vset.view
    rw [A.base, base_flat hat1 rfl, base_flat hat e2]
    unfold Vset.byte
    rw [Vset.with_at, hat]
    simp only
    rw [show (S1.with (S.last + 1) ⟨n, id, [], [], false, 0, 0, false⟩ (p, st)).pool = p from rfl]
    unfold byteAt pg
    rw [hg, if_pos (by omega), nth_touched (by omega)]
    rw [show a / 64 + ((((0 : Int) + x) / 64).toNat : Int) = (0 + (a + x)) / 64 by omega, show ((0 : Int) + x) % 64 = (0 + (a + x)) % 64 by omega]
    cases get q.frames ((0 + (a + x)) / 64) with
    | none => rfl
    | some f => simp only [hd]
end
end Go.Proofs.Ytkifgoadbnpofaa
