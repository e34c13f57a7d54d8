/- Words shared by the walks of this seat: what a call may write (Mods), blocks behind stores, maps keyed by int as lists of pairs. Conditions: none; all is stated over any program and world. -/
import Derived.WalkKit
import Derived.WalkSpells
import Derived.Deep.QuietTactic
import Derived.BigQuiet
import Derived.Lib.Hide
import Derived.WalkLawsBesides
namespace Go.Proofs.Ytkifgoadbnpofaa
open Go Go.RowKit

abbrev i64 (n : Int) : Value := .int .i64 n
abbrev ptr (b : Nat) : Value := .pointer (some ⟨b, 0, none⟩)

/-- From w to w' only blocks in F were written; new ones may have come. -/
structure Mods (F : Nat → Prop) (w w' : World) : Prop where
  os : w'.os = w.os
  tape : w'.tape = w.tape
  output : w'.output = w.output
  size : w.heap.size ≤ w'.heap.size
  block : ∀ k, k < w.heap.size → ¬ F k → w'.heap[k]? = w.heap[k]?

theorem Mods.refl (F : Nat → Prop) (w : World) : Mods F w w := ⟨rfl, rfl, rfl, Nat.le_refl _, fun _ _ _ => rfl⟩

theorem Mods.trans {F F' : Nat → Prop} {a b c : World} (h : Mods F a b) (k : Mods F' b c) (hF : ∀ i, F' i → F i ∨ a.heap.size ≤ i) : Mods F a c :=
  ⟨k.os.trans h.os, k.tape.trans h.tape, k.output.trans h.output, Nat.le_trans h.size k.size, fun i hi hn =>
    (k.block i (Nat.lt_of_lt_of_le hi h.size) (fun hf => (hF i hf).elim hn (fun h' => by omega))).trans (h.block i hi hn)⟩

theorem Mods.mono {F F' : Nat → Prop} {a b : World} (h : Mods F a b) (hF : ∀ i, F i → F' i ∨ a.heap.size ≤ i) : Mods F' a b :=
  ⟨h.os, h.tape, h.output, h.size, fun i hi hn => h.block i hi (fun hf => (hF i hf).elim hn (fun h' => by omega))⟩

theorem Mods.drewN {F : Nat → Prop} {a w : World} (h : Mods F a w) (n : Nat) : Mods F a (w.drewN n) := ⟨h.os, h.tape, h.output, h.size, h.block⟩
theorem Mods.drew {F : Nat → Prop} {a w : World} (h : Mods F a w) : Mods F a w.drew := ⟨h.os, h.tape, h.output, h.size, h.block⟩

theorem hp_alloc_old (w : World) (o : Obj) (k : Nat) (h : k < w.heap.size) : (w.alloc o).heap[k]? = w.heap[k]? := by
  show (w.heap.push o)[k]? = _
  rw [Array.getElem?_push, if_neg (by omega)]
theorem hp_alloc_new (w : World) (o : Obj) : (w.alloc o).heap[w.heap.size]? = some o := by
  show (w.heap.push o)[w.heap.size]? = _
  rw [Array.getElem?_push, if_pos rfl]
theorem hp_lt {w : World} {k : Nat} {o : Obj} (h : w.heap[k]? = some o) : k < w.heap.size := (Array.getElem?_eq_some_iff.1 h).1
theorem hp_setCell_ne (w : World) (a : Addr) (u : Value) (k : Nat) (h : k ≠ a.block) : (w.setCell a u).heap[k]? = w.heap[k]? := by
  simp only [World.setCell, Array.getElem?_modify]
  rw [if_neg (by omega)]
theorem hp_setCell_same (w : World) (b o : Nat) (u : Value) (cs : Array Value) (e : TypeId) (fz : Nat × Nat) (h : w.heap[b]? = some (.cells cs e fz)) :
    (w.setCell ⟨b, o, none⟩ u).heap[b]? = some (.cells (cs.setIfInBounds o u) e fz) := by
  simp [World.setCell, Array.getElem?_modify, h]
theorem cell_of {w : World} {b o : Nat} {cs : Array Value} {e : TypeId} {fz : Nat × Nat} (h : w.heap[b]? = some (.cells cs e fz)) : w.cell? ⟨b, o, none⟩ = cs[o]? := by
  simp [World.cell?, h]
theorem frozen_of {w : World} {b o : Nat} {cs : Array Value} {e : TypeId} (h : w.heap[b]? = some (.cells cs e (0, 0))) : w.frozen? ⟨b, o, none⟩ = false := by
  simp [World.frozen?, h]

theorem Mods.alloc {F : Nat → Prop} {a w : World} (h : Mods F a w) (o : Obj) : Mods F a (w.alloc o) :=
  h.trans (F' := fun _ => False) ⟨rfl, rfl, rfl, by simp, fun k hk _ => hp_alloc_old _ _ _ hk⟩ (fun _ h => h.elim)
theorem Mods.setCell {F : Nat → Prop} {a w : World} (h : Mods F a w) {p : Addr} (hp : F p.block ∨ a.heap.size ≤ p.block) (u : Value) : Mods F a (w.setCell p u) :=
  h.trans (F' := fun k => k = p.block) ⟨rfl, rfl, rfl, by simp [World.setCell], fun k _ hk => hp_setCell_ne _ _ _ _ hk⟩ (fun i hi => by subst hi; exact hp)
theorem Mods.grown {F : Nat → Prop} {a w w' : World} {row : Option Nat} (h : Mods F a w) (hg : w.grownBy w' row) (hr : ∀ k, row = some k → F k ∨ a.heap.size ≤ k) : Mods F a w' :=
  h.trans (F' := fun k => some k = row) ⟨hg.os, hg.tape, hg.output, hg.size, fun k hk hn => hg.block k hk hn⟩ (fun i hi => hr i hi.symm)
theorem Mods.below {F : Nat → Prop} {B : Nat} {w w' : World} (h : Mods F w w') (hB : B ≤ w.heap.size) (hF : ∀ k, F k → B ≤ k) : Below B w w' :=
  ⟨h.os, h.tape, h.output, h.size, fun k hk => h.block k (by omega) (fun hf => by have := hF k hf; omega)⟩
theorem Mods.ofBelow {w w' : World} (h : Below w.heap.size w w') (F : Nat → Prop) : Mods F w w' :=
  ⟨h.os, h.tape, h.output, h.size, fun k hk _ => h.block k hk⟩
theorem Mods.cell {F : Nat → Prop} {w w' : World} (h : Mods F w w') {p : Addr} (hp : p.block < w.heap.size) (hn : ¬ F p.block) : w'.cell? p = w.cell? p := World.cell?_of_block (w := w) (h.block p.block hp hn)

/-- What a thing's representation becomes: it still stands, on blocks that it had or that are new; nothing else was written. -/
def Upd (I : World → (Nat → Prop) → Prop) (fp : Nat → Prop) (w w' : World) : Prop :=
  ∃ fp', I w' fp' ∧ Mods fp w w' ∧ ∀ k, fp' k → fp k ∨ w.heap.size ≤ k

/- MAPS KEYED BY int, as lists of pairs in the entries' order. -/
def get {α : Type} : List (Int × α) → Int → Option α
  | [], _ => none
  | (k, v) :: r, x => if k = x then some v else get r x
def put {α : Type} : List (Int × α) → Int → α → List (Int × α)
  | [], x, v => [(x, v)]
  | (k, u) :: r, x, v => if k = x then (k, v) :: r else (k, u) :: put r x v
def del {α : Type} : List (Int × α) → Int → List (Int × α)
  | [], _ => []
  | (k, u) :: r, x => if k = x then r else (k, u) :: del r x

structure MapAt (w : World) (m : Nat) (L : List (Int × Value)) : Prop where
  ex : ∃ es clk, w.heap[m]? = some (.map es clk) ∧ es.toList.map (fun e => (e.key, e.val)) = L.map (fun p => (i64 p.1, p.2)) ∧
    (∀ e ∈ es.toList, e.born < clk) ∧ (es.toList.map (·.born)).Nodup

theorem MapAt.lt {w : World} {m : Nat} {L : List (Int × Value)} (h : MapAt w m L) : m < w.heap.size := by
  obtain ⟨es, clk, hh, _⟩ := h.ex; exact hp_lt hh
theorem MapAt.of_block {w w' : World} {m : Nat} {L : List (Int × Value)} (h : MapAt w m L) (hb : w'.heap[m]? = w.heap[m]?) : MapAt w' m L :=
  ⟨by rw [hb]; exact h.ex⟩
theorem MapAt.ne_cells {w : World} {m b : Nat} {L : List (Int × Value)} (h : MapAt w m L) {c : Array Value} {e : TypeId} {fz : Nat × Nat} (hb : w.heap[b]? = some (.cells c e fz)) : b ≠ m := by
  rintro rfl
  obtain ⟨es, clk, hh, _⟩ := h.ex
  rw [hb] at hh; cases hh
theorem MapAt.new (w : World) : MapAt (w.alloc (.map #[] 0)) w.heap.size [] :=
  ⟨#[], 0, hp_alloc_new w _, rfl, by simp, by simp⟩

def findE : List MapEntry → Int → Option Nat
  | [], _ => none
  | e :: r, k => match e.key with
    | .int .i64 a => if k = a then some 0 else (findE r k).map (· + 1)
    | _ => (findE r k).map (· + 1)

/-- The world behind m[k] = v. -/
def mPut (w : World) (m : Nat) (k : Int) (v : Value) : World :=
  match w.heap[m]? with
  | some (.map es clk) => match findE es.toList k with
    | some i => { w with heap := w.heap.setIfInBounds m (.map (es.modify i fun e => { e with key := i64 k, val := v }) clk) }
    | none => { w with heap := w.heap.setIfInBounds m (.map (es.push { key := i64 k, val := v, born := clk }) (clk + 1)) }
  | _ => w
/-- The world behind delete(m, k). -/
def mDel (w : World) (m : Nat) (k : Int) : World :=
  match w.heap[m]? with
  | some (.map es clk) => match findE es.toList k with
    | some i => { w with heap := w.heap.setIfInBounds m (.map (es.eraseIdxIfInBounds i) clk) }
    | none => { w with heap := w.heap.setIfInBounds m (.map es clk) }
  | _ => w

theorem findNow_int (k : Int) : ∀ (es : List MapEntry) (L : List (Int × Value)) (i : Nat), es.map (fun e => (e.key, e.val)) = L.map (fun p => (i64 p.1, p.2)) →
    Instr.findNow (.int .i64) (i64 k) es i = some ((findE es k).bind fun j => (get L k).map fun v => (i + j, v)) ∧ ((findE es k).isSome = (get L k).isSome)
  | [], [], _, _ => ⟨rfl, rfl⟩
  | e :: es, (a, v) :: L, i, h => by
    simp only [List.map_cons, List.cons.injEq, Prod.mk.injEq] at h
    obtain ⟨⟨hk, hv⟩, hr⟩ := h
    obtain ⟨ih, ihs⟩ := findNow_int k es L (i + 1) hr
    by_cases hka : k = a
    · subst hka
      simp [Instr.findNow, Instr.sameNow, hk, hv, findE, get]
    · have hka' : ¬ a = k := fun h => hka h.symm
      have e1 : (k == a) = false := by simpa using hka
      refine ⟨?_, ?_⟩
      · simp only [Instr.findNow, Instr.sameNow, hk, if_true, e1]
        rw [ih]
        simp only [findE, hk, get, if_neg hka, if_neg hka', Option.bind_map, Function.comp_def]
        cases findE es k with
        | none => rfl
        | some j => simp [Nat.add_comm, Nat.add_left_comm]
      · simp only [findE, hk, get, if_neg hka, if_neg hka', Option.isSome_map]
        exact ihs
  | [], _ :: _, _, h => by simp at h
  | _ :: _, [], _, h => by simp at h

section
variable {P : Program} {t kt et : TypeId}
theorem gObj {w : World} {r : Nat} {es : Array MapEntry} {clk : Nat} (hb : w.heap[r]? = some (.map es clk)) : (getObj r).run P w = .ok (.map es clk) w := by
  simp [getObj, Sem.run, hb]
theorem sObj {w : World} {r : Nat} {es : Array MapEntry} {clk : Nat} (o : Obj) (hb : w.heap[r]? = some (.map es clk)) : (setObj r o).run P w = .ok () { w with heap := w.heap.setIfInBounds r o } := by
  simp [setObj, Sem.run, hb]
theorem run_findKey_int (hk : P.underlying kt = some (.int .i64)) (k : Int) (es : List MapEntry) (L : List (Int × Value))
    (h : es.map (fun e => (e.key, e.val)) = L.map (fun p => (i64 p.1, p.2))) (w : World) :
    (Instr.findKey kt (i64 k) es).run P w = .ok ((findE es k).bind fun j => (get L k).map fun v => (j, v)) w := by
  have := (findNow_int k es L 0 h).1
  simp [Instr.findKey, run_underlying hk, this]
theorem run_checkKey_int (hk : P.underlying kt = some (.int .i64)) (k : Int) (b : Bool) (w : World) :
    (Instr.checkKey b 10000 kt (i64 k)).run P w = .ok () w := by
  have h : ∀ n, (Instr.checkKey b (n + 1) kt (i64 k)).run P w = .ok () w := fun n => by
    unfold Instr.checkKey
    simp [run_underlying hk]
  exact h 9999
theorem run_lookup_int (ht : P.underlying t = some (.map kt et)) (hk : P.underlying kt = some (.int .i64)) {z : Value} (hz : ∀ w, (zeroValue et).run P w = .ok z w)
    (m : Nat) (L : List (Int × Value)) (w : World) (h : MapAt w m L) (k : Int) :
    (Instr.lookup t (.map (some m)) (i64 k) false).run P w = .ok ((get L k).getD z) w := by
  obtain ⟨es, clk, hh, hL, _⟩ := h.ex
  have hs := (findNow_int k es.toList L 0 hL).2
  have hfk := run_findKey_int hk k es.toList L hL w
  have hck := run_checkKey_int hk k es.isEmpty w
  simp only [Instr.lookup, Sem.run_bind, run_underlying ht, Result.andThen, gObj hh, Sem.run_pure, hck, hfk]
  cases hg : get L k with
  | none => cases hf : findE es.toList k <;> simp [hz]
  | some v => cases hf : findE es.toList k <;> simp_all
theorem run_lookup_int_ok (ht : P.underlying t = some (.map kt et)) (hk : P.underlying kt = some (.int .i64)) {z : Value} (hz : ∀ w, (zeroValue et).run P w = .ok z w)
    (m : Nat) (L : List (Int × Value)) (w : World) (h : MapAt w m L) (k : Int) :
    (Instr.lookup t (.map (some m)) (i64 k) true).run P w = .ok (.tuple #[(get L k).getD z, .bool (get L k).isSome]) w := by
  obtain ⟨es, clk, hh, hL, _⟩ := h.ex
  have hs := (findNow_int k es.toList L 0 hL).2
  have hfk := run_findKey_int hk k es.toList L hL w
  have hck := run_checkKey_int hk k es.isEmpty w
  simp only [Instr.lookup, Sem.run_bind, run_underlying ht, Result.andThen, gObj hh, Sem.run_pure, hck, hfk]
  cases hg : get L k with
  | none => cases hf : findE es.toList k <;> simp [hz]
  | some v => cases hf : findE es.toList k <;> simp_all

theorem findE_key : ∀ (es : List MapEntry) (k : Int) (i : Nat), findE es k = some i → ∃ e, es[i]? = some e ∧ e.key = i64 k
  | e :: es, k, i, h => by
    unfold findE at h
    split at h
    · rename_i a hk
      split at h
      · rename_i hka
        cases h
        exact ⟨e, rfl, by rw [hk, hka]⟩
      · cases hf : findE es k with
        | none => simp [hf] at h
        | some j => simp only [hf, Option.map_some, Option.some.injEq] at h; subst h; simpa using findE_key es k j hf
    · cases hf : findE es k with
      | none => simp [hf] at h
      | some j => simp only [hf, Option.map_some, Option.some.injEq] at h; subst h; simpa using findE_key es k j hf

theorem run_keyThatStays (k : Int) (w : World) : (Instr.keyThatStays (i64 k) (i64 k)).run P w = .ok (i64 k) w := by
  have h : ∀ n, Instr.sameBits n (i64 k) (i64 k) = true := fun n => by cases n <;> simp [Instr.sameBits]
  simp [Instr.keyThatStays, h]

theorem run_mapUpdate_int (ht : P.underlying t = some (.map kt et)) (hk : P.underlying kt = some (.int .i64))
    (m : Nat) (L : List (Int × Value)) (w : World) (h : MapAt w m L) (k : Int) (v : Value) :
    (Instr.mapUpdate t (.map (some m)) (i64 k) v).run P w = .ok () (mPut w m k v) := by
  obtain ⟨es, clk, hh, hL, _⟩ := h.ex
  obtain ⟨_, hs⟩ := findNow_int k es.toList L 0 hL
  have hfk := run_findKey_int hk k es.toList L hL w
  have hck := run_checkKey_int hk k false w
  simp only [Instr.mapUpdate, Sem.run_bind, run_underlying ht, Result.andThen, gObj hh, hck, hfk, mPut, hh]
  cases hf : findE es.toList k with
  | none => simp [sObj _ hh]
  | some i =>
    obtain ⟨e, he, hek⟩ := findE_key _ _ _ hf
    have he' : es[i]? = some e := by simpa using he
    cases hg : get L k with
    | none => simp [hf, hg] at hs
    | some u =>
      have hks := run_keyThatStays (P := P) k w
      simp only [Option.bind_some, Option.map_some, he', hek, Option.getD_some, Sem.run_bind, hks, Result.andThen, sObj _ hh]

omit kt in
theorem run_eql_nilslice (ht : P.underlying t = some (.slice et)) (a : Option Addr) (l c : Nat) (w : World) :
    (binOp .eql t (.slice a l c) (.slice none 0 0)).run P w = .ok (.bool a.isNone) w := by
  simp only [binOp]
  simp [run_equal_slice_nil w t et a l c ht]
omit t kt et in
@[go_sem] theorem run_makeMap_none (t : TypeId) (w : World) : (Instr.makeMap t none).run P w = .ok (.map (some w.heap.size)) (w.alloc (.map #[] 0)) := by
  simp [Instr.makeMap, Result.andThen]
theorem run_len_int {ty : TypeId} (ht : P.underlying t = some (.map kt et)) (m : Nat) (L : List (Int × Value)) (w : World) (h : MapAt w m L) :
    (Builtin.len_ #[t] ty #[.map (some m)]).run P w = .ok (i64 L.length) w := by
  obtain ⟨es, clk, hh, hL, _⟩ := h.ex
  have hlen : es.size = L.length := by
    have := congrArg List.length hL
    simpa using this
  simp [Builtin.len_, run_underlying ht, Result.andThen, gObj hh, goInt, hlen]

theorem run_delete_int {a2 ty : TypeId} (ht : P.underlying t = some (.map kt et)) (hk : P.underlying kt = some (.int .i64))
    (m : Nat) (L : List (Int × Value)) (w : World) (h : MapAt w m L) (k : Int) :
    (Builtin.delete_ #[t, a2] ty #[.map (some m), i64 k]).run P w = .ok (.tuple #[]) (mDel w m k) := by
  obtain ⟨es, clk, hh, hL, _⟩ := h.ex
  obtain ⟨_, hs⟩ := findNow_int k es.toList L 0 hL
  have hfk := run_findKey_int hk k es.toList L hL w
  have hck := run_checkKey_int hk k es.isEmpty w
  cases hf : findE es.toList k with
  | none =>
    rw [hf] at hfk
    simp [Builtin.delete_, run_underlying ht, Result.andThen, gObj hh, hck, hfk, mDel, hh, hf, sObj _ hh]
  | some i =>
    cases hg : get L k with
    | none => simp [hf, hg] at hs
    | some u =>
      rw [hf, hg] at hfk
      simp [Builtin.delete_, run_underlying ht, Result.andThen, gObj hh, hck, hfk, mDel, hh, hf, sObj _ hh]
end

theorem mapPut_ne (w : World) (m k : Nat) (x : Int) (v : Value) (h : k ≠ m) : (mPut w m x v).heap[k]? = w.heap[k]? := by
  unfold mPut
  (repeat' split) <;> simp [Ne.symm h]
theorem mapDel_ne (w : World) (m k : Nat) (x : Int) (h : k ≠ m) : (mDel w m x).heap[k]? = w.heap[k]? := by
  unfold mDel
  (repeat' split) <;> simp [Ne.symm h]
@[simp, go_sem] theorem mapPut_size (w : World) (m : Nat) (x : Int) (v : Value) : (mPut w m x v).heap.size = w.heap.size := by
  unfold mPut
  (repeat' split) <;> simp
@[simp, go_sem] theorem mapDel_size (w : World) (m : Nat) (x : Int) : (mDel w m x).heap.size = w.heap.size := by
  unfold mDel
  (repeat' split) <;> simp
theorem cell_mapBlock {w w' : World} {m : Nat} {es es' : Array MapEntry} {c c' : Nat} (h : w.heap[m]? = some (.map es c)) (h' : w'.heap[m]? = some (.map es' c'))
    (hn : ∀ k, k ≠ m → w'.heap[k]? = w.heap[k]?) (a : Addr) : w'.cell? a = w.cell? a ∧ w'.frozen? a = w.frozen? a := by
  by_cases e : a.block = m
  · subst e
    simp [World.cell?, World.frozen?, h, h']
  · simp [World.cell?, World.frozen?, hn _ e]
theorem mPut_same (w : World) (m : Nat) (x : Int) (v : Value) (a : Addr) : (mPut w m x v).cell? a = w.cell? a ∧ (mPut w m x v).frozen? a = w.frozen? a := by
  cases h : w.heap[m]? with
  | none => simp [mPut, h]
  | some o =>
    cases o with
    | map es clk =>
      have hlt := hp_lt h
      cases hf : findE es.toList x with
      | none => exact cell_mapBlock h (es' := es.push { key := i64 x, val := v, born := clk }) (c' := clk + 1) (by simp only [mPut, h, hf]; simp [hlt]) (fun k hk => mapPut_ne w m k x v hk) a
      | some i => exact cell_mapBlock h (es' := es.modify i fun e => { e with key := i64 x, val := v }) (c' := clk) (by simp only [mPut, h, hf]; simp [hlt]) (fun k hk => mapPut_ne w m k x v hk) a
    | _ => simp [mPut, h]
theorem mDel_same (w : World) (m : Nat) (x : Int) (a : Addr) : (mDel w m x).cell? a = w.cell? a ∧ (mDel w m x).frozen? a = w.frozen? a := by
  cases h : w.heap[m]? with
  | none => simp [mDel, h]
  | some o =>
    cases o with
    | map es clk =>
      have hlt := hp_lt h
      cases hf : findE es.toList x with
      | none => exact cell_mapBlock h (es' := es) (c' := clk) (by simp only [mDel, h, hf]; simp [hlt]) (fun k hk => mapDel_ne w m k x hk) a
      | some i => exact cell_mapBlock h (es' := es.eraseIdxIfInBounds i) (c' := clk) (by simp only [mDel, h, hf]; simp [hlt]) (fun k hk => mapDel_ne w m k x hk) a
    | _ => simp [mDel, h]
@[simp, go_sem] theorem mPut_cell (w : World) (m : Nat) (x : Int) (v : Value) (a : Addr) : (mPut w m x v).cell? a = w.cell? a := (mPut_same w m x v a).1
@[simp, go_sem] theorem mPut_frozen (w : World) (m : Nat) (x : Int) (v : Value) (a : Addr) : (mPut w m x v).frozen? a = w.frozen? a := (mPut_same w m x v a).2
@[simp, go_sem] theorem mDel_cell (w : World) (m : Nat) (x : Int) (a : Addr) : (mDel w m x).cell? a = w.cell? a := (mDel_same w m x a).1
@[simp, go_sem] theorem mDel_frozen (w : World) (m : Nat) (x : Int) (a : Addr) : (mDel w m x).frozen? a = w.frozen? a := (mDel_same w m x a).2
theorem Mods.mPut {F : Nat → Prop} {a w : World} (h : Mods F a w) {m : Nat} (hp : F m ∨ a.heap.size ≤ m) (x : Int) (v : Value) : Mods F a (mPut w m x v) :=
  h.trans (F' := fun k => k = m) ⟨by unfold Proofs.Ytkifgoadbnpofaa.mPut; (repeat' split) <;> rfl, by unfold Proofs.Ytkifgoadbnpofaa.mPut; (repeat' split) <;> rfl, by unfold Proofs.Ytkifgoadbnpofaa.mPut; (repeat' split) <;> rfl, by simp,
    fun k _ hk => mapPut_ne _ _ _ _ _ hk⟩ (fun i hi => by subst hi; exact hp)
theorem Mods.mDel {F : Nat → Prop} {a w : World} (h : Mods F a w) {m : Nat} (hp : F m ∨ a.heap.size ≤ m) (x : Int) : Mods F a (mDel w m x) :=
  h.trans (F' := fun k => k = m) ⟨by unfold Proofs.Ytkifgoadbnpofaa.mDel; (repeat' split) <;> rfl, by unfold Proofs.Ytkifgoadbnpofaa.mDel; (repeat' split) <;> rfl, by unfold Proofs.Ytkifgoadbnpofaa.mDel; (repeat' split) <;> rfl, by simp,
    fun k _ hk => mapDel_ne _ _ _ _ hk⟩ (fun i hi => by subst hi; exact hp)

theorem put_some {es : List MapEntry} {L : List (Int × Value)} {k : Int} {v : Value} : ∀ {i : Nat}, es.map (fun e => (e.key, e.val)) = L.map (fun p => (i64 p.1, p.2)) → findE es k = some i →
    (es.modify i fun e => { e with key := i64 k, val := v }).map (fun e => (e.key, e.val)) = (put L k v).map (fun p => (i64 p.1, p.2)) := by
  induction es generalizing L with
  | nil => intro i _ h; simp [findE] at h
  | cons e es ih =>
    intro i h hf
    cases L with
    | nil => simp at h
    | cons p L =>
      obtain ⟨a, u⟩ := p
      simp only [List.map_cons, List.cons.injEq, Prod.mk.injEq] at h
      obtain ⟨⟨hk, hv⟩, hr⟩ := h
      simp only [findE, hk] at hf
      by_cases hka : k = a
      · subst hka
        simp only [if_true, Option.some.injEq] at hf
        subst hf
        simp [put, hr]
      · have hka' : ¬ a = k := fun h => hka h.symm
        rw [if_neg hka] at hf
        cases hfe : findE es k with
        | none => simp [hfe] at hf
        | some j =>
          simp only [hfe, Option.map_some, Option.some.injEq] at hf
          subst hf
          simp [put, hka', ih hr hfe, hk, hv]
theorem put_none {es : List MapEntry} {L : List (Int × Value)} {k : Int} {v : Value} {c : Nat} : es.map (fun e => (e.key, e.val)) = L.map (fun p => (i64 p.1, p.2)) → findE es k = none →
    (es ++ [({ key := i64 k, val := v, born := c } : MapEntry)]).map (fun e : MapEntry => (e.key, e.val)) = (put L k v).map (fun p => (i64 p.1, p.2)) := by
  induction es generalizing L with
  | nil => intro h _; cases L with
    | nil => rfl
    | cons p L => simp at h
  | cons e es ih =>
    intro h hf
    cases L with
    | nil => simp at h
    | cons p L =>
      obtain ⟨a, u⟩ := p
      simp only [List.map_cons, List.cons.injEq, Prod.mk.injEq] at h
      obtain ⟨⟨hk, hv⟩, hr⟩ := h
      simp only [findE, hk] at hf
      by_cases hka : k = a
      · simp [hka] at hf
      · have hka' : ¬ a = k := fun h => hka h.symm
        rw [if_neg hka] at hf
        have hfe : findE es k = none := by cases hfe : findE es k <;> simp_all
        have := ih hr hfe
        simp only [List.map_append, List.map_cons, List.map_nil] at this
        simp [put, hka', this, hk, hv]
theorem del_some {es : List MapEntry} {L : List (Int × Value)} {k : Int} : ∀ {i : Nat}, es.map (fun e => (e.key, e.val)) = L.map (fun p => (i64 p.1, p.2)) → findE es k = some i →
    (es.eraseIdx i).map (fun e => (e.key, e.val)) = (del L k).map (fun p => (i64 p.1, p.2)) := by
  induction es generalizing L with
  | nil => intro i _ h; simp [findE] at h
  | cons e es ih =>
    intro i h hf
    cases L with
    | nil => simp at h
    | cons p L =>
      obtain ⟨a, u⟩ := p
      simp only [List.map_cons, List.cons.injEq, Prod.mk.injEq] at h
      obtain ⟨⟨hk, hv⟩, hr⟩ := h
      simp only [findE, hk] at hf
      by_cases hka : k = a
      · subst hka
        simp only [if_true, Option.some.injEq] at hf
        subst hf
        simp [del, hr]
      · have hka' : ¬ a = k := fun h => hka h.symm
        rw [if_neg hka] at hf
        cases hfe : findE es k with
        | none => simp [hfe] at hf
        | some j =>
          simp only [hfe, Option.map_some, Option.some.injEq] at hf
          subst hf
          simp [del, hka', ih hr hfe, hk, hv]
theorem del_none {es : List MapEntry} {L : List (Int × Value)} {k : Int} : es.map (fun e => (e.key, e.val)) = L.map (fun p => (i64 p.1, p.2)) → findE es k = none → del L k = L := by
  induction es generalizing L with
  | nil => intro h _; cases L with
    | nil => rfl
    | cons p L => simp at h
  | cons e es ih =>
    intro h hf
    cases L with
    | nil => simp at h
    | cons p L =>
      obtain ⟨a, u⟩ := p
      simp only [List.map_cons, List.cons.injEq, Prod.mk.injEq] at h
      obtain ⟨⟨hk, hv⟩, hr⟩ := h
      simp only [findE, hk] at hf
      by_cases hka : k = a
      · simp [hka] at hf
      · have hka' : ¬ a = k := fun h => hka h.symm
        rw [if_neg hka] at hf
        have hfe : findE es k = none := by cases hfe : findE es k <;> simp_all
        simp [del, hka', ih hr hfe]

theorem map_born_modify (es : List MapEntry) (i : Nat) (k v : Value) : (es.modify i fun e => { e with key := k, val := v }).map (·.born) = es.map (·.born) := by
  induction es generalizing i with
  | nil => simp
  | cons e es ih => cases i <;> simp [ih]

theorem MapAt.put {w : World} {m : Nat} {L : List (Int × Value)} (h : MapAt w m L) (k : Int) (v : Value) : MapAt (mPut w m k v) m (put L k v) := by
  obtain ⟨es, clk, hh, hL, hb, hn⟩ := h.ex
  have hlt := hp_lt hh
  refine ⟨?_⟩
  cases hf : findE es.toList k with
  | some i =>
    refine ⟨es.modify i fun e => { e with key := i64 k, val := v }, clk, by simp only [mPut, hh, hf]; simp [hlt], ?_, ?_, ?_⟩
    · rw [Array.toList_modify]; exact put_some hL hf
    · have hbm := map_born_modify es.toList i (i64 k) v
      intro e he
      rw [Array.toList_modify] at he
      have : e.born ∈ (es.toList.modify i fun e => { e with key := i64 k, val := v }).map (·.born) := List.mem_map.2 ⟨e, he, rfl⟩
      rw [hbm] at this
      obtain ⟨e', he', heq⟩ := List.mem_map.1 this
      rw [← heq]; exact hb e' he'
    · rw [Array.toList_modify, map_born_modify]; exact hn
  | none =>
    refine ⟨es.push { key := i64 k, val := v, born := clk }, clk + 1, by simp only [mPut, hh, hf]; simp [hlt], ?_, ?_, ?_⟩
    · rw [Array.toList_push]; exact put_none hL hf
    · intro e he
      rw [Array.toList_push, List.mem_append] at he
      rcases he with he | he
      · have := hb e he; omega
      · simp at he; subst he; simp
    · rw [Array.toList_push, List.map_append]
      refine List.nodup_append.2 ⟨hn, by simp, ?_⟩
      intro a ha b hb' hab
      simp at hb'
      subst hb'
      obtain ⟨e, he, rfl⟩ := List.mem_map.1 ha
      have := hb e he
      omega
theorem MapAt.del {w : World} {m : Nat} {L : List (Int × Value)} (h : MapAt w m L) (k : Int) : MapAt (mDel w m k) m (del L k) := by
  obtain ⟨es, clk, hh, hL, hb, hn⟩ := h.ex
  have hlt := hp_lt hh
  refine ⟨?_⟩
  cases hf : findE es.toList k with
  | some i =>
    have hi : i < es.size := by
      obtain ⟨e, he, _⟩ := findE_key _ _ _ hf
      have := (List.getElem?_eq_some_iff.1 he).1
      simpa using this
    refine ⟨es.eraseIdxIfInBounds i, clk, by simp only [mDel, hh, hf]; simp [hlt], ?_, ?_, ?_⟩
    · simp only [Array.eraseIdxIfInBounds, hi, dif_pos, Array.toList_eraseIdx]; exact del_some hL hf
    · simp only [Array.eraseIdxIfInBounds, hi, dif_pos, Array.toList_eraseIdx]
      intro e he; exact hb e (List.mem_of_mem_eraseIdx he)
    · simp only [Array.eraseIdxIfInBounds, hi, dif_pos, Array.toList_eraseIdx]
      exact List.Nodup.sublist ((List.eraseIdx_sublist es.toList i).map _) hn
  | none =>
    refine ⟨es, clk, by simp only [mDel, hh, hf]; simp [hlt], ?_, hb, hn⟩
    rw [del_none hL hf]; exact hL
end Go.Proofs.Ytkifgoadbnpofaa
