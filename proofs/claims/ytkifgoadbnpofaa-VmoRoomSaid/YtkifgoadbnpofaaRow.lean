/- A slice over an array of one's own, wherever in the array it begins: reading, append from any source, s[1:]. Conditions: none beyond Go's own limits on lengths; stated over any program. -/
import Derived.Test.YtkifgoadbnpofaaKit
import Derived.Deep.MidRow
namespace Go.Proofs.Ytkifgoadbnpofaa
open Go Go.RowKit

/-- The slice v has n elements of type e (size cells each), whose cells are xs; its array is a block of its own kind, not frozen. -/
def Row (w : World) (e : TypeId) (size : Nat) (v : Value) (n : Nat) (xs : List Value) : Prop :=
  xs.length = n * size ∧
  ((v = .slice none 0 0 ∧ n = 0) ∨
   ∃ g off cap cur, v = .slice (some ⟨g, off, none⟩) n cap ∧ w.heap[g]? = some (.cells cur e (0, 0)) ∧ n ≤ cap ∧ cap ≤ maxLen ∧ off + cap * size ≤ cur.size ∧ (cur.toList.drop off).take (n * size) = xs)

/-- What an append takes: m elements, whose cells are news. -/
def Src (w : World) (size : Nat) (x : Value) (m : Nat) (news : List Value) : Prop :=
  news.length = m * size ∧ (∀ u ∈ news, u.oneCell' = true) ∧ ((m = 0 ∧ ∃ a c, x = .slice a 0 c) ∨ ∃ g off c, x = .slice (some ⟨g, off, none⟩) m c ∧ ∀ j u, news[j]? = some u → w.cell? ⟨g, off + j, none⟩ = some u)

theorem add_lit' (g off j : Nat) : (⟨g, off, none⟩ : Addr).add j = ⟨g, off + j, none⟩ := by
  unfold Addr.add
  split <;> simp_all

theorem Row.nil (w : World) (e : TypeId) (size : Nat) : Row w e size (.slice none 0 0) 0 [] := ⟨by simp, .inl ⟨rfl, rfl⟩⟩
theorem Row.shape {w : World} {e : TypeId} {size : Nat} {v : Value} {n : Nat} {xs : List Value} (h : Row w e size v n xs) : ∃ a c, v = .slice a n c := by
  rcases h.2 with ⟨rfl, rfl⟩ | ⟨g, off, cap, cur, rfl, _⟩
  · exact ⟨_, _, rfl⟩
  · exact ⟨_, _, rfl⟩
theorem Row.len {w : World} {e : TypeId} {size : Nat} {v : Value} {n : Nat} {xs : List Value} (h : Row w e size v n xs) : xs.length = n * size := h.1
theorem Row.of_block {w w' : World} {e : TypeId} {size : Nat} {v : Value} {n : Nat} {xs : List Value} (h : Row w e size v n xs)
    (hb : ∀ k, v.ownBlock = some k → k < w.heap.size → w'.heap[k]? = w.heap[k]?) : Row w' e size v n xs := by
  refine ⟨h.1, ?_⟩
  rcases h.2 with hn | ⟨g, off, cap, cur, rfl, hg, rest⟩
  · exact .inl hn
  · exact .inr ⟨g, off, cap, cur, rfl, by rw [hb g rfl (hp_lt hg)]; exact hg, rest⟩
theorem Row.block {w : World} {e : TypeId} {size : Nat} {v : Value} {n : Nat} {xs : List Value} (h : Row w e size v n xs) {k : Nat} (hk : v.ownBlock = some k) :
    ∃ cur, w.heap[k]? = some (.cells cur e (0, 0)) := by
  rcases h.2 with ⟨rfl, _⟩ | ⟨g, off, cap, cur, rfl, hg, _⟩
  · cases hk
  · cases hk; exact ⟨cur, hg⟩
theorem Row.lt {w : World} {e : TypeId} {size : Nat} {v : Value} {n : Nat} {xs : List Value} (h : Row w e size v n xs) {k : Nat} (hk : v.ownBlock = some k) : k < w.heap.size := by
  obtain ⟨cur, hc⟩ := h.block hk
  exact hp_lt hc
theorem Row.mods {w w' : World} {F : Nat → Prop} {e : TypeId} {size : Nat} {v : Value} {n : Nat} {xs : List Value} (h : Row w e size v n xs) (M : Mods F w w')
    (hF : ∀ k, v.ownBlock = some k → ¬ F k) : Row w' e size v n xs := h.of_block (fun k hk hlt => M.block k hlt (hF k hk))
theorem Row.cells {w : World} {e : TypeId} {size : Nat} {g off cap n : Nat} {xs : List Value} (h : Row w e size (.slice (some ⟨g, off, none⟩) n cap) n xs) :
    ∀ j u, xs[j]? = some u → w.cell? ⟨g, off + j, none⟩ = some u := by
  intro j u hu
  rcases h.2 with ⟨h', _⟩ | ⟨g', off', cap', cur, hv, hg, _, _, _, ht⟩
  · cases h'
  · cases hv
    rw [cell_of hg, ← Array.getElem?_toList, ← List.getElem?_drop]
    rw [← ht, List.getElem?_take] at hu
    split at hu
    · exact hu
    · cases hu
theorem Row.src {w : World} {e : TypeId} {size : Nat} {v : Value} {n : Nat} {xs : List Value} (h : Row w e size v n xs) (h1 : ∀ u ∈ xs, u.oneCell' = true) : Src w size v n xs := by
  refine ⟨h.1, h1, ?_⟩
  rcases h.2 with ⟨rfl, rfl⟩ | ⟨g, off, cap, cur, rfl, hg, _⟩
  · exact .inl ⟨rfl, _, _, rfl⟩
  · exact .inr ⟨g, off, cap, rfl, h.cells⟩
theorem Src.keep {w w' : World} {size : Nat} {x : Value} {m : Nat} {news : List Value} (h : Src w size x m news)
    (hb : ∀ k, x.ownBlock = some k → w'.heap[k]? = w.heap[k]?) : Src w' size x m news := by
  refine ⟨h.1, h.2.1, ?_⟩
  rcases h.2.2 with h0 | ⟨g, off, c, rfl, hc⟩
  · exact .inl h0
  · exact .inr ⟨g, off, c, rfl, fun j u hu => by rw [← hc j u hu]; exact World.cell?_of_block (hb g rfl)⟩
/-- A new block as a source. -/
theorem Src.fresh (w : World) (size m c : Nat) (news : List Value) (e : TypeId) (hl : news.length = m * size) (h1 : ∀ u ∈ news, u.oneCell' = true) :
    Src (w.alloc (.cells news.toArray e)) size (.slice (some ⟨w.heap.size, 0, none⟩) m c) m news :=
  ⟨hl, h1, .inr ⟨_, _, _, rfl, fun j u hu => by rw [cell_of (hp_alloc_new w _)]; simpa using hu⟩⟩

/-- s[k:] with k elements gone. -/
theorem Row.tail {w : World} {e : TypeId} {size g off n cap k : Nat} {xs : List Value} (h : Row w e size (.slice (some ⟨g, off, none⟩) n cap) n xs) (hk : k ≤ n) :
    Row w e size (.slice (some ⟨g, off + k * size, none⟩) (n - k) (cap - k)) (n - k) (xs.drop (k * size)) := by
  rcases h.2 with ⟨h', _⟩ | ⟨g', off', cap', cur, hv, hg, h1, h2, h3, ht⟩
  · cases h'
  · cases hv
    refine ⟨by rw [List.length_drop, h.1, Nat.sub_mul], .inr ⟨g, off + k * size, cap - k, cur, rfl, hg, by omega, by omega, ?_, ?_⟩⟩
    · have : (cap - k) * size + k * size = cap * size := by rw [← Nat.add_mul, Nat.sub_add_cancel (by omega)]
      omega
    · rw [← ht, List.drop_take, List.drop_drop, Nat.sub_mul]
/-- The same at k = the capacity, where Go keeps the address. -/
theorem Row.empty {w : World} {e : TypeId} {size g off n cap : Nat} {xs : List Value} (h : Row w e size (.slice (some ⟨g, off, none⟩) n cap) n xs) :
    Row w e size (.slice (some ⟨g, off, none⟩) 0 0) 0 [] := by
  rcases h.2 with ⟨h', _⟩ | ⟨g', off', cap', cur, hv, hg, h1, h2, h3, ht⟩
  · cases h'
  · cases hv
    exact ⟨by simp, .inr ⟨g, off, 0, cur, rfl, hg, by omega, by omega, by omega, by simp⟩⟩

section
variable {P : Program} (w : World)
theorem run_append_at (t ty e : TypeId) (i : TypeInfo) (ht : P.underlying t = some (.slice e)) (hi : P.info? e = some i)
    (g off sLen sCap : Nat) (cur : Array Value) (hg : w.heap[g]? = some (.cells cur e (0, 0)))
    (a : Addr) (m c : Nat) (news : List Value) (hl : news.length = m * i.size) (hnews : ∀ j u, news[j]? = some u → w.cell? (a.add j) = some u) (h1 : ∀ u ∈ news, u.oneCell' = true)
    (hroom : sLen + m ≤ sCap) (hfit : off + sLen * i.size + news.length ≤ cur.size) :
    (Builtin.append_ #[t, t] ty #[.slice (some ⟨g, off, none⟩) sLen sCap, .slice (some a) m c]).run P w =
      .ok (.slice (some ⟨g, off, none⟩) (sLen + m) sCap) (w.setRow g (cur.toList.take (off + sLen * i.size) ++ news ++ cur.toList.drop (off + sLen * i.size + news.length)).toArray) := by
  have hf := run_firstCells_some (P := P) w i.size m a m c news hl hnews
  have hst := run_storeCells_at P g (off + sLen * i.size) e news 0 cur w hg (by simpa using hfit) h1
  simp only [Nat.add_zero] at hst
  simp [Builtin.append_, run_underlying ht, sizeOf, typeInfo, hi, Builtin.lenOf, hroom, hf, add_lit', hst]

/-- append of nothing, from whatever slice: the value stays (a nil slice stays nil). -/
theorem run_append_zero (t ty e : TypeId) (i : TypeInfo) (ht : P.underlying t = some (.slice e)) (hi : P.info? e = some i)
    (b : Option Addr) (n cap : Nat) (hnc : n ≤ cap) (hb : ∀ a, b = some a → ∃ g off, a = ⟨g, off, none⟩) (a : Option Addr) (c : Nat) :
    (Builtin.append_ #[t, t] ty #[.slice b n cap, .slice a 0 c]).run P w = .ok (.slice b n cap) w := by
  cases a with
  | none =>
    cases b with
    | none => simp [Builtin.append_, run_underlying ht, sizeOf, typeInfo, hi, Builtin.lenOf, hnc, Builtin.firstCells]
    | some a' =>
      obtain ⟨g, off, rfl⟩ := hb _ rfl
      simp [Builtin.append_, run_underlying ht, sizeOf, typeInfo, hi, Builtin.lenOf, hnc, Builtin.firstCells, storeCells]
  | some a0 =>
    have hf := run_firstCells_some (P := P) w i.size 0 a0 0 c [] (by simp) (by simp)
    cases b with
    | none => simp [Builtin.append_, run_underlying ht, sizeOf, typeInfo, hi, Builtin.lenOf, hnc, hf]
    | some a' =>
      obtain ⟨g, off, rfl⟩ := hb _ rfl
      simp [Builtin.append_, run_underlying ht, sizeOf, typeInfo, hi, Builtin.lenOf, hnc, hf, storeCells]

theorem run_append_row (t ty e : TypeId) (i : TypeInfo) (z : Value) (size bytes : Nat) (ht : P.underlying t = some (.slice e)) (hi : P.info? e = some i) (hz : i.zero = some z)
    (hsize : i.size = size) (hby : i.bytes = bytes) (hzs : z.cells.size = size) (hsz : 0 < size)
    {v : Value} {n : Nat} {xs : List Value} (hown : Row w e size v n xs) {x : Value} {m : Nat} {news : List Value} (hx : Src w size x m news)
    (h63 : n + m ≤ maxLen) (hbytes : (n + m) * bytes ≤ 140737488355328) :
    ∃ v' w', (Builtin.append_ #[t, t] ty #[v, x]).run P w = .ok v' w' ∧ Row w' e size v' (n + m) (xs ++ news) ∧ w.grownBy w' v.ownBlock ∧
      ((v'.ownBlock = v.ownBlock) ∨ v'.ownBlock = some w.heap.size) ∧ (m = 0 → v' = v) := by
  subst hsize
  subst hby
  have hsmall : n + m ≤ 9223372036854775807 := by simp only [maxLen] at h63; omega
  rcases hx.2.2 with ⟨rfl, a, c, rfl⟩ | ⟨ag, aoff, c, rfl, hnews⟩
  · have hn : news = [] := List.eq_nil_of_length_eq_zero (by simpa using hx.1)
    subst hn
    have hgr : w.grownBy w v.ownBlock := ⟨rfl, rfl, rfl, Nat.le_refl _, fun _ _ _ => rfl⟩
    rcases hown.2 with ⟨rfl, rfl⟩ | ⟨g, off, cap, cur, rfl, hg, hnc, rest⟩
    · exact ⟨_, w, run_append_zero w t ty e i ht hi none 0 0 (Nat.le_refl _) (by simp) a c, by simpa using hown, hgr, .inl rfl, fun _ => rfl⟩
    · exact ⟨_, w, run_append_zero w t ty e i ht hi _ n cap hnc (fun a' h => by cases h; exact ⟨_, _, rfl⟩) a c, by simpa using hown, hgr, .inl rfl, fun _ => rfl⟩
  have hl := hx.1
  have h1 := hx.2.1
  have hnews' : ∀ j u, news[j]? = some u → w.cell? ((⟨ag, aoff, none⟩ : Addr).add j) = some u := fun j u hu => by rw [add_lit']; exact hnews j u hu
  have hlen : (xs ++ news).length = (n + m) * i.size := by rw [List.length_append, hown.1, hl, Nat.add_mul]
  have grown : ∀ (old : Nat), old < n + m → ∀ (row : Option Nat),
      Row (w.drew.alloc (.cells (xs.toArray ++ news.toArray ++ Builtin.zeroCells z.cells (grownCap w (n + m) old e - (n + m))) e)) e i.size
        (.slice (some ⟨w.heap.size, 0, none⟩) (n + m) (grownCap w (n + m) old e)) (n + m) (xs ++ news) ∧
      w.grownBy (w.drew.alloc (.cells (xs.toArray ++ news.toArray ++ Builtin.zeroCells z.cells (grownCap w (n + m) old e - (n + m))) e)) row := by
    intro old ho row
    have hge := grownCap_ge w (n + m) old e
    have hcm : grownCap w (n + m) old e ≤ maxLen := grownCap_le_maxLen w (n + m) old e h63
    refine ⟨⟨hlen, .inr ⟨w.heap.size, 0, _, _, rfl, hp_alloc_new w.drew _, hge, hcm, ?_, ?_⟩⟩, ⟨rfl, rfl, rfl, by simp, fun k hk _ => hp_alloc_old w.drew _ k hk⟩⟩
    · simp only [Array.size_append, List.size_toArray, size_zeroCells, hzs, hown.1, hl, ← Nat.add_mul]
      refine Nat.le_of_eq ?_
      rw [Nat.zero_add]
      congr 1
      omega
    · simp only [Array.toList_append, List.append_assoc, List.drop_zero]
      rw [← List.append_assoc, ← hlen]
      exact List.take_left
  rcases hown.2 with ⟨rfl, rfl⟩ | ⟨g, off, cap, cur, rfl, hg, hnc, hcm, hcs, htake⟩
  · have hx' : xs = [] := List.eq_nil_of_length_eq_zero (by simpa using hown.1)
    subst hx'
    by_cases hm : m = 0
    · subst hm
      have hn : news = [] := List.eq_nil_of_length_eq_zero (by simpa using hl)
      subst hn
      exact ⟨_, w, run_append_zero w t ty e i ht hi none 0 0 (Nat.le_refl _) (by simp) _ c, Row.nil w e i.size, ⟨rfl, rfl, rfl, Nat.le_refl _, fun _ _ _ => rfl⟩, .inl rfl, fun _ => rfl⟩
    · have hr := run_append_nil (P := P) w t ty e i z ht hi hz ⟨ag, aoff, none⟩ m c news hl hnews' (by omega) (by omega) (by have hb := hbytes; simp only [Nat.zero_add] at hb; omega)
      have hgr := grown 0 (by omega) (Value.ownBlock (.slice none 0 0))
      simp only [Nat.zero_add, List.nil_append, Array.empty_append] at hgr ⊢
      exact ⟨_, _, hr, hgr.1, hgr.2, .inr rfl, fun h => absurd h hm⟩
  · by_cases hroom : n + m ≤ cap
    · have hmul : n * i.size + m * i.size ≤ cap * i.size := by rw [← Nat.add_mul]; exact Nat.mul_le_mul_right _ hroom
      have hfit : off + n * i.size + news.length ≤ cur.size := by rw [hl]; omega
      have hr := run_append_at (P := P) w t ty e i ht hi g off n cap cur hg ⟨ag, aoff, none⟩ m c news hl hnews' h1 hroom hfit
      refine ⟨_, _, hr, ⟨hlen, .inr ⟨g, off, cap, _, rfl, setRow_heap w g cur _ e _ hg, hroom, hcm, ?_, ?_⟩⟩, ⟨rfl, rfl, rfl, by simp, fun k _ hk => setRow_other w g k _ (fun e => hk (by simp [Value.ownBlock, e]))⟩, .inl rfl, ?_⟩
      · simp only [List.size_toArray, List.length_append, List.length_take, List.length_drop, Array.length_toList]
        omega
      · have hlt : (cur.toList.take (off + n * i.size)).length = off + n * i.size := by simp; omega
        have e1 : cur.toList.take (off + n * i.size) = cur.toList.take off ++ xs := by
          rw [← htake, List.take_add]
        rw [e1]
        have hlo : (cur.toList.take off).length = off := by simp; omega
        simp only [List.append_assoc]
        rw [List.drop_append_of_le_length (by omega), List.drop_of_length_le (by omega), List.nil_append, ← List.append_assoc, ← hlen]
        exact List.take_left
      · intro hm; subst hm; rfl
    · have holds : ∀ j u, xs[j]? = some u → w.cell? ((⟨g, off, none⟩ : Addr).add j) = some u := fun j u hu => by rw [add_lit']; exact hown.cells j u hu
      have hr := run_append_grow (P := P) w t ty e i z ht hi hz ⟨g, off, none⟩ n cap xs hown.1 holds ⟨ag, aoff, none⟩ m c news hl hnews' (by omega) (by omega) (growslice_fits (by omega) hbytes)
      have hgr := grown cap (by omega) (Value.ownBlock (.slice (some ⟨g, off, none⟩) n cap))
      exact ⟨_, _, hr, hgr.1, hgr.2, .inr rfl, fun h => by omega⟩
end
theorem wpList_append_row {P : Program} {w : World} {ops : Array Oper} {rest : List Oper} {o : Oper} {a : Act} {Q : Exit → Act → World → Prop} (hgd : o.guard = none) (s x : Operand) (t : TypeId)
    (ho : o.op = .call { callee := .builtin .append, args := #[s, x], argTypes := #[t, t] })
    (e : TypeId) (i : TypeInfo) (z : Value) (size bytes : Nat) (ht : P.underlying t = some (.slice e)) (hi : P.info? e = some i) (hz : i.zero = some z)
    (hsize : i.size = size) (hby : i.bytes = bytes) (hzs : z.cells.size = size) (hsz : 0 < size)
    {v : Value} {n : Nat} {xs : List Value} (hs : a.eval s = v) (hown : Row w e size v n xs) {xv : Value} {m : Nat} {news : List Value} (hxv : a.eval x = xv) (hx : Src w size xv m news)
    (h63 : n + m ≤ maxLen) (hbytes : (n + m) * bytes ≤ 140737488355328)
    (h : ∀ v' w', Row w' e size v' (n + m) (xs ++ news) → w.grownBy w' v.ownBlock → ((v'.ownBlock = v.ownBlock) ∨ v'.ownBlock = some w.heap.size) → (m = 0 → v' = v) → wpList P ops Q rest (a.put o.dst v') w') :
    wpList P ops Q (o :: rest) a w := by
  obtain ⟨v', w', hr, h2, h3, h4, h5⟩ := run_append_row (P := P) w t o.type e i z size bytes ht hi hz hsize hby hzs hsz hown hx h63 hbytes
  refine wpList_plain hgd (fun K hK => ?_)
  unfold Oper.wp execOp
  simp only [ho, resolve, invoke, builtin, Sem.run_bind, Sem.run_pure, Result.andThen_ok, List.map_toArray, List.map_cons, List.map_nil, hs, hxv, hr]
  exact hK _ _ (h v' w' h2 h3 h4 h5)

section
variable {P : Program} {w : World} {t e : TypeId} {size : Nat} {v : Value} {n : Nat} {xs : List Value}
theorem Row.cut (h : Row w e size v n xs) (lo hi : Nat) (h1 : lo ≤ hi) (h2 : hi ≤ n) : ∃ v', v'.ownBlock = v.ownBlock ∧ Row w e size v' (hi - lo) ((xs.drop (lo * size)).take ((hi - lo) * size)) ∧
    ∀ a cap, v = .slice a n cap → v' = .slice (if cap = lo then a else a.map (·.add (lo * size))) (hi - lo) (cap - lo) := by
  have hlen : ((xs.drop (lo * size)).take ((hi - lo) * size)).length = (hi - lo) * size := by
    rw [List.length_take, List.length_drop, h.1, ← Nat.sub_mul]
    exact Nat.min_eq_left (Nat.mul_le_mul_right _ (by omega))
  rcases h.2 with ⟨rfl, rfl⟩ | ⟨g, off, cap, cur, rfl, hg, hn, hm, hs, ht⟩
  · have : lo = 0 := by omega
    have : hi = 0 := by omega
    subst lo; subst hi
    exact ⟨.slice none 0 0, rfl, ⟨hlen, .inl ⟨rfl, rfl⟩⟩, fun a cap h => by cases h; rfl⟩
  · by_cases hc : cap = lo
    · refine ⟨.slice (some ⟨g, off, none⟩) (hi - lo) (cap - lo), rfl, ⟨hlen, .inr ⟨g, off, cap - lo, cur, rfl, hg, by omega, by omega, ?_, ?_⟩⟩, fun a cap' h => by cases h; simp [hc]⟩
      · rw [show cap - lo = 0 by omega]; omega
      · rw [show hi - lo = 0 by omega]; simp
    · refine ⟨.slice (some ⟨g, off + lo * size, none⟩) (hi - lo) (cap - lo), rfl, ⟨hlen, .inr ⟨g, off + lo * size, cap - lo, cur, rfl, hg, by omega, by omega, ?_, ?_⟩⟩, fun a cap' h => by cases h; simp [hc, add_lit']⟩
      · have : (cap - lo) * size + lo * size = cap * size := by rw [← Nat.add_mul, Nat.sub_add_cancel (by omega)]
        omega
      · rw [← ht, List.drop_take, List.drop_drop, List.take_take, ← Nat.sub_mul]
        congr 1
        exact (Nat.min_eq_left (Nat.mul_le_mul_right _ (by omega))).symm
theorem run_slice_tail (ht : P.underlying t = some (.slice e)) (hsz : ∀ w, (sizeOf e).run P w = .ok size w) (h : Row w e size v n xs) (lo : Nat) (h1 : lo ≤ n) :
    ∃ v', (∀ W, (Instr.slice t v (some (i64 lo)) none none).run P W = .ok v' W) ∧ Row w e size v' (n - lo) (xs.drop (lo * size)) ∧ v'.ownBlock = v.ownBlock := by
  obtain ⟨v', hb, hr, hv⟩ := h.cut lo n h1 (Nat.le_refl _)
  obtain ⟨a, cap, rfl⟩ := h.shape
  refine ⟨v', fun W => ?_, ?_, hb⟩
  · rw [hv a cap rfl]
    simp [Instr.slice, run_underlying ht, Instr.sliceBounds, Instr.sliceBound, asIntOf, Result.andThen, hsz, h1]
  · have e1 : ((xs.drop (lo * size)).take ((n - lo) * size)) = xs.drop (lo * size) := by
      refine List.take_of_length_le ?_
      rw [List.length_drop, h.1, Nat.sub_mul]
      exact Nat.le_refl _
    rw [e1] at hr; exact hr
end

theorem Row.setCell {w : World} {e : TypeId} {size g off n cap : Nat} {xs : List Value} (h : Row w e size (.slice (some ⟨g, off, none⟩) n cap) n xs) (k : Nat) (u : Value) :
    Row (w.setCell ⟨g, off + k, none⟩ u) e size (.slice (some ⟨g, off, none⟩) n cap) n (xs.set k u) := by
  rcases h.2 with ⟨h', _⟩ | ⟨g', off', cap', cur, hv, hg, h1, h2, h3, ht⟩
  · cases h'
  · cases hv
    refine ⟨by rw [List.length_set]; exact h.1, .inr ⟨g, off, cap, cur.setIfInBounds (off + k) u, rfl, hp_setCell_same _ _ _ _ _ _ _ hg, h1, h2, by simpa using h3, ?_⟩⟩
    rw [Array.toList_setIfInBounds, List.drop_set, if_neg (by omega), Nat.add_sub_cancel_left, List.take_set, ht]
theorem setCells_mods (g : Nat) : ∀ (vs : List Value) (o : Nat) (w : World), Mods (fun k => k = g) w (w.setCells g o vs)
  | [], _, w => Mods.refl _ w
  | v :: r, o, w => ((Mods.refl (fun k => k = g) w).setCell (p := ⟨g, o, none⟩) (.inl rfl) v).trans (setCells_mods g r (o + 1) (w.setCell ⟨g, o, none⟩ v)) (fun _ hi => .inl hi)
theorem splice_step (xs : List Value) (k : Nat) (v : Value) (r : List Value) (h : k < xs.length) :
    (xs.set k v).take (k + 1) ++ r ++ (xs.set k v).drop (k + 1 + r.length) = xs.take k ++ (v :: r) ++ xs.drop (k + (v :: r).length) := by
  rw [List.drop_set, if_pos (by omega), List.take_succ_eq_append_getElem (by rw [List.length_set]; exact h), List.take_set_of_le (Nat.le_refl k)]
  simp only [List.getElem_set_self, List.length_cons, List.append_assoc, List.cons_append, List.nil_append]
  rw [show k + 1 + r.length = k + (r.length + 1) by omega]
theorem Row.setCells {e : TypeId} {size g off n cap : Nat} : ∀ (vs : List Value) (k : Nat) (w : World) (xs : List Value), Row w e size (.slice (some ⟨g, off, none⟩) n cap) n xs → k + vs.length ≤ n * size →
    Row (w.setCells g (off + k) vs) e size (.slice (some ⟨g, off, none⟩) n cap) n (xs.take k ++ vs ++ xs.drop (k + vs.length))
  | [], k, w, xs, h, _ => by
    simp only [List.append_nil, List.length_nil, Nat.add_zero, List.take_append_drop]; exact h
  | v :: r, k, w, xs, h, hk => by
    simp only [List.length_cons] at hk
    have h1 := h.setCell k v
    have h2 := Row.setCells r (k + 1) _ _ h1 (by omega)
    rw [splice_step xs k v r (by rw [h.1]; omega)] at h2
    exact h2
theorem Row.there {w : World} {e : TypeId} {size g off n cap : Nat} {xs : List Value} (h : Row w e size (.slice (some ⟨g, off, none⟩) n cap) n xs) {k m : Nat} (hk : k + m ≤ n * size) : w.there g (off + k) m := by
  intro j hj
  rcases h.2 with ⟨h', _⟩ | ⟨g', off', cap', cur, hv, hg, h1, h2, h3, ht⟩
  · cases h'
  · cases hv
    have : n * size ≤ cap * size := Nat.mul_le_mul_right _ h1
    refine ⟨?_, frozen_of hg⟩
    rw [cell_of hg]
    simp; omega
theorem Row.range {w : World} {e : TypeId} {size g off n cap : Nat} {xs : List Value} (h : Row w e size (.slice (some ⟨g, off, none⟩) n cap) n xs) (k m : Nat) : w.rangeAt g (off + k) ((xs.drop k).take m) := by
  intro j v hv
  rw [List.getElem?_take] at hv
  split at hv
  · rw [List.getElem?_drop] at hv
    rw [Nat.add_assoc]; exact h.cells _ _ hv
  · cases hv
theorem Row.free {w : World} {e : TypeId} {size g off n cap : Nat} {xs : List Value} (h : Row w e size (.slice (some ⟨g, off, none⟩) n cap) n xs) (k : Nat) : w.frozen? ⟨g, k, none⟩ = false := by
  rcases h.2 with ⟨h', _⟩ | ⟨g', off', cap', cur, hv, hg, _⟩
  · cases h'
  · cases hv; exact frozen_of hg
end Go.Proofs.Ytkifgoadbnpofaa
