/- Walks of layer 1 (num): Within, Add, Down, Up, Pages, at the sizes that the layers above use. -/
import Derived.Test.YtkifgoadbnpofaaProg
import Derived.Test.YtkifgoadbnpofaaKit
namespace Go.Proofs.Ytkifgoadbnpofaa
open Go Go.RowKit
set_option maxRecDepth 100000

def inside (at_ n size : Int) : Bool := decide (0 ≤ at_ ∧ 0 ≤ n ∧ at_ ≤ size ∧ n ≤ size - at_)
section
variable {w : World}
set_option maxHeartbeats 400000 in
theorem within_calls (a n s : Int) (h0 : 0 ≤ s) (h1 : s ≤ 4611686018427387904) :
    Calls Try.prog 52 #[i64 a, i64 n, i64 s] w fun e w' => e = .returned (.bool (inside a n s)) ∧ w = w' := by
  by_cases ha : 0 ≤ a
  · by_cases hn : 0 ≤ n
    · by_cases has : a ≤ s
      · by_cases hns : n ≤ s - a
        · have H := Lib.hid (show inside a n s = true by simp [inside]; omega)
          generalize inside a n s = b at *
          go_enter Try.func52, Try.ntmps52
          go_wp2
          go_ret
          exact ⟨by rw [H.out]; simp <;> omega, rfl⟩
        · have H := Lib.hid (show inside a n s = false by simp [inside]; omega)
          generalize inside a n s = b at *
          go_enter Try.func52, Try.ntmps52
          go_wp2
          go_ret
          exact ⟨by rw [H.out]; simp <;> omega, rfl⟩
      · have H := Lib.hid (show inside a n s = false by simp [inside]; omega)
        generalize inside a n s = b at *
        go_enter Try.func52, Try.ntmps52
        go_wp2
        go_ret
        exact ⟨by rw [H.out]; simp <;> omega, rfl⟩
    · have H := Lib.hid (show inside a n s = false by simp [inside]; omega)
      generalize inside a n s = b at *
      go_enter Try.func52, Try.ntmps52
      go_wp2
      go_ret
      exact ⟨by rw [H.out]; simp <;> omega, rfl⟩
  · have H := Lib.hid (show inside a n s = false by simp [inside]; omega)
    generalize inside a n s = b at *
    go_enter Try.func52, Try.ntmps52
    go_wp2
    go_ret
    exact ⟨by rw [H.out]; simp <;> omega, rfl⟩

set_option maxHeartbeats 400000 in
theorem add_calls (a b : Int) (h0 : -4611686018427387904 ≤ a) (h1 : a ≤ 4611686018427387903) (h2 : -4611686018427387904 ≤ b) (h3 : b ≤ 4611686018427387903) :
    Calls Try.prog 94 #[i64 a, i64 b] w fun e w' => e = .returned (.tuple #[i64 (a + b), .bool true]) ∧ w = w' := by
  by_cases hb : 0 < b
  · have d1 : decide (a < a + b) = true := by simp; omega
    have d2 : decide (0 < b) = true := by simp; omega
    go_enter Try.func94, Try.ntmps94
    go_wp2
    go_ret2
    exact ⟨rfl, rfl⟩
  · by_cases hb0 : b = 0
    · subst hb0
      have d1 : decide (a < a) = false := by simp
      go_enter Try.func94, Try.ntmps94
      go_wp2
      go_ret2
      exact ⟨by simp, rfl⟩
    · have d1 : decide (a < a + b) = false := by simp; omega
      have d2 : decide (0 < b) = false := by simp; omega
      go_enter Try.func94, Try.ntmps94
      go_wp2
      go_ret2
      exact ⟨rfl, rfl⟩

/-- The next multiple of 64. -/
def up64 (n : Int) : Int := (n + 63) / 64 * 64
set_option maxHeartbeats 400000 in
theorem down_calls (n : Int) (h0 : 0 ≤ n) (h1 : n ≤ 4611686018427387904) :
    Calls Try.prog 93 #[i64 n, i64 64] w fun e w' => e = .returned (.tuple #[i64 (n - n % 64), .bool true]) ∧ w = w' := by
  go_enter Try.func93, Try.ntmps93
  go_wp2
  go_ret2
  exact ⟨rfl, rfl⟩
set_option maxHeartbeats 400000 in
theorem up_calls (n : Int) (h0 : 0 ≤ n) (h1 : n ≤ 2305843009213693952) :
    Calls Try.prog 64 #[i64 n, i64 64] w fun e w' => e = .returned (.tuple #[i64 (up64 n), .bool true]) ∧ w = w' := by
  have hm0 : 0 ≤ n % 64 := by omega
  have hm1 : n % 64 < 64 := by omega
  have Hd := Lib.hid (down_calls (w := w) n h0 (by omega))
  have Hu := Lib.hid (show up64 n = if n % 64 = 0 then n else n - n % 64 + 64 by unfold up64; split <;> omega)
  have hl0 : 0 ≤ n - n % 64 := by omega
  have hl1 : n - n % 64 ≤ 2305843009213693952 := by omega
  have Hle := Lib.hid (show (n - n % 64 = n) ↔ (n % 64 = 0) by omega)
  have Ha := Lib.hid (add_calls (w := w) (n - n % 64) 64 (by omega) (by omega) (by omega) (by omega))
  by_cases hz : n % 64 = 0
  · have Hz := Lib.hid hz
    have hb : (n - n % 64 == n) = true := by simp [hz]
    clear hz
    generalize n - n % 64 = lo at *
    go_enter Try.func64, Try.ntmps64
    go_wp2_with (go_at_call 93; refine Hd.out.mono ?_; rintro e w' ⟨rfl, rfl⟩)
    go_ret2
    rw [Hu.out, if_pos Hz.out]
    have := Hle.out.2 Hz.out
    exact ⟨by rw [this]; rfl, rfl⟩
  · have Hz := Lib.hid hz
    have hb : (n - n % 64 == n) = false := by
      have : ¬ n - n % 64 = n := fun h => hz (Hle.out.1 h)
      simpa using this
    clear hz
    generalize n - n % 64 = lo at *
    go_enter Try.func64, Try.ntmps64
    go_wp2_with (first
      | (go_at_call 93; refine Hd.out.mono ?_; rintro e w' ⟨rfl, rfl⟩)
      | (go_at_call 94; refine Ha.out.mono ?_; rintro e w' ⟨rfl, rfl⟩))
    go_ret2
    rw [Hu.out, if_neg Hz.out]
    exact ⟨rfl, rfl⟩

/-- How many pages a range touches. -/
def npages (a n : Int) : Int := if n = 0 then 0 else (a + n - 1) / 64 - a / 64 + 1
set_option maxHeartbeats 400000 in
theorem pages_calls (a n : Int) (h0 : 0 ≤ a) (h1 : a ≤ 2305843009213693952) (h2 : 0 ≤ n) (h3 : n ≤ 2305843009213693952) :
    Calls Try.prog 69 #[i64 a, i64 n] w fun e w' => e = .returned (.tuple #[i64 (a / 64), i64 (npages a n), .bool true]) ∧ w = w' := by
  have Ha := Lib.hid (add_calls (w := w) a n (by omega) (by omega) (by omega) (by omega))
  by_cases hz : n = 0
  · subst hz
    have Hp := Lib.hid (show npages a 0 = 0 by simp [npages])
    go_enter Try.func69, Try.ntmps69
    go_wp2_with (go_at_call 94; refine Ha.out.mono ?_; rintro e w' ⟨rfl, rfl⟩)
    go_ret3
    exact ⟨by rw [Hp.out]; rfl, rfl⟩
  · have Hp := Lib.hid (show npages a n = (a + n - 1) / 64 - a / 64 + 1 by simp [npages, hz])
    have hb : (n == 0) = false := by simpa using hz
    have hn : 1 ≤ n := by omega
    have q1 : 0 ≤ (a + n - 1) / 64 := by omega
    have q2 : 0 ≤ a / 64 := by omega
    have q3 : a / 64 ≤ (a + n - 1) / 64 := by omega
    have q4 : (a + n - 1) / 64 ≤ 4611686018427387904 := by omega
    clear hz
    go_enter Try.func69, Try.ntmps69
    go_wp2_with (go_at_call 94; refine Ha.out.mono ?_; rintro e w' ⟨rfl, rfl⟩)
    go_ret3
    exact ⟨by rw [Hp.out]; rfl, rfl⟩
end
end Go.Proofs.Ytkifgoadbnpofaa
