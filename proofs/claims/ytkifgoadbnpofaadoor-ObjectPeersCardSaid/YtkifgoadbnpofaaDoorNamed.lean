/- What the listed variable's datum gives the walks: the table of names, cell by cell. -/
import Derived.Test.YtkifgoadbnpofaaDoorRows
import Derived.Test.YtkifgoadbnpofaaDoorAwake
import Derived.ProofKit
import Derived.LaidLaws
import Derived.LaidHandle
namespace Go.Proofs.YtkifgoadbnpofaaDoor
open Go Go.RowKit
set_option maxRecDepth 100000

theorem nm_g : Tryd.prog.globalNamed "jacinth/rights.names" = some 0 := by kernel_rfl
theorem nm_t : (Tryd.prog.globals[0]?).map (·.type) = some 77 := by kernel_rfl
theorem nm_c : Tryd.prog.cellsOf 77 = 12 := by kernel_rfl
theorem nm_s : Tryd.prog.cellsOf 9 = 1 := by kernel_rfl

theorem str_of_trod {H : Type} {enc : TypeId × Value → H} {P : Program} {w : World} {base : Nat} {sp : Nat → Bool} {held : Bool} {fuel : Nat} {t : TypeId} {c : Value} {y : DataW H × List MemPlace}
    (ht : P.underlying t = some .string) (h : DataW.trod enc P w base sp held fuel t [c] = some y) : ∃ s, c = .string s ∧ y = (.lit (.string s.data.toList), []) := by
  cases fuel with
  | zero => simp [DataW.trod] at h
  | succ fuel =>
    cases c <;> simp [DataW.trod, ht] at h
    rename_i s
    exact ⟨s, rfl, h.2.symm⟩

theorem empty_iff (s : ByteArray) (l : List UInt8) (h : s.data.toList = l) : s.toList.isEmpty = l.isEmpty := by
  rw [ByteArray.toList_eq, h]

theorem named_of_laid {W : World} (h : laidMet Tryd.prog [("jacinth/rights.names", Rows.laid_jacinth_rights_names)] W) : Named W := by
  obtain ⟨ps, ⟨g, t, cs, fuel, p, q, hg, ht, hvar, hd, _, _⟩, _⟩ := h
  obtain rfl := Option.some.inj (nm_g.symm.trans hg)
  obtain rfl := Option.some.inj (nm_t.symm.trans ht)
  obtain ⟨l⟩ := cs
  cases fuel with
  | zero => simp [DataW.trod] at hd
  | succ fuel =>
    simp only [DataW.trod, Tryd.underlying77, nm_c, nm_s] at hd
    split at hd
    · rename_i hl
      obtain ⟨c0, c1, c2, c3, c4, c5, c6, c7, c8, c9, c10, c11, rfl⟩ : ∃ c0 c1 c2 c3 c4 c5 c6 c7 c8 c9 c10 c11, l = [c0, c1, c2, c3, c4, c5, c6, c7, c8, c9, c10, c11] := by
        match l, hl with
        | [c0, c1, c2, c3, c4, c5, c6, c7, c8, c9, c10, c11], _ => exact ⟨c0, c1, c2, c3, c4, c5, c6, c7, c8, c9, c10, c11, rfl⟩
      have e : List.range 12 = [0, 1, 2, 3, 4, 5, 6, 7, 8, 9, 10, 11] := rfl
      rw [e] at hd
      simp only [Option.map_eq_some_iff, List.mapM_cons, List.mapM_nil, Option.bind_eq_bind, Option.bind_eq_some_iff, Option.pure_def, Option.some.injEq] at hd
      obtain ⟨xs, ⟨y0, h0, _, ⟨y1, h1, _, ⟨y2, h2, _, ⟨y3, h3, _, ⟨y4, h4, _, ⟨y5, h5, _, ⟨y6, h6, _, ⟨y7, h7, _, ⟨y8, h8, _, ⟨y9, h9, _, ⟨y10, h10, _, ⟨y11, h11, _, rfl, rfl⟩, rfl⟩, rfl⟩, rfl⟩, rfl⟩, rfl⟩, rfl⟩, rfl⟩, rfl⟩, rfl⟩, rfl⟩, rfl⟩, hx⟩ := hd
      obtain ⟨s0, rfl, rfl⟩ := str_of_trod Tryd.underlying9 h0
      obtain ⟨s1, rfl, rfl⟩ := str_of_trod Tryd.underlying9 h1
      obtain ⟨s2, rfl, rfl⟩ := str_of_trod Tryd.underlying9 h2
      obtain ⟨s3, rfl, rfl⟩ := str_of_trod Tryd.underlying9 h3
      obtain ⟨s4, rfl, rfl⟩ := str_of_trod Tryd.underlying9 h4
      obtain ⟨s5, rfl, rfl⟩ := str_of_trod Tryd.underlying9 h5
      obtain ⟨s6, rfl, rfl⟩ := str_of_trod Tryd.underlying9 h6
      obtain ⟨s7, rfl, rfl⟩ := str_of_trod Tryd.underlying9 h7
      obtain ⟨s8, rfl, rfl⟩ := str_of_trod Tryd.underlying9 h8
      obtain ⟨s9, rfl, rfl⟩ := str_of_trod Tryd.underlying9 h9
      obtain ⟨s10, rfl, rfl⟩ := str_of_trod Tryd.underlying9 h10
      obtain ⟨s11, rfl, rfl⟩ := str_of_trod Tryd.underlying9 h11
      simp only [Rows.laid_jacinth_rights_names, List.map_cons, List.map_nil, Prod.mk.injEq, DataW.agg.injEq, List.cons.injEq, DataW.lit.injEq, Lit.string.injEq, and_true] at hx
      obtain ⟨⟨e0, e1, e2, e3, e4, e5, e6, e7, e8, e9, e10, e11⟩, _⟩ := hx
      intro k hk
      have hc := World.var?_cell hg hvar k
      match k, hk with
      | 0, _ => exact ⟨s0, hc, empty_iff _ _ e0⟩
      | 1, _ => exact ⟨s1, hc, empty_iff _ _ e1⟩
      | 2, _ => exact ⟨s2, hc, empty_iff _ _ e2⟩
      | 3, _ => exact ⟨s3, hc, empty_iff _ _ e3⟩
      | 4, _ => exact ⟨s4, hc, empty_iff _ _ e4⟩
      | 5, _ => exact ⟨s5, hc, empty_iff _ _ e5⟩
      | 6, _ => exact ⟨s6, hc, empty_iff _ _ e6⟩
      | 7, _ => exact ⟨s7, hc, empty_iff _ _ e7⟩
      | 8, _ => exact ⟨s8, hc, empty_iff _ _ e8⟩
      | 9, _ => exact ⟨s9, hc, empty_iff _ _ e9⟩
      | 10, _ => exact ⟨s10, hc, empty_iff _ _ e10⟩
      | 11, _ => exact ⟨s11, hc, empty_iff _ _ e11⟩
    · cases hd
end Go.Proofs.YtkifgoadbnpofaaDoor
