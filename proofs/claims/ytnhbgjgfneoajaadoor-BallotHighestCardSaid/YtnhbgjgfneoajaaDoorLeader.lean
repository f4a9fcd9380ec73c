/-
  Views: the leader of a view, the next view of a server; the program's and the reference's.
-/
import Derived.Test.YtnhbgjgfneoajaaDoorProg
import Derived.WalkKit
import Derived.Lib.Hide
import Derived.Below
set_option linter.unusedVariables false
namespace Go.Proofs.YtnhbgjgfneoajaaDoor
open Go.RowKit

/-- the leader of a view, and the error -/
def leadV (view n : Int) : Int × Int := if (1 ≤ n ∧ n ≤ 12) ∧ (1 ≤ view ∧ view ≤ 2147483647) then ((view - 1) % n, 0) else (0, 7)

set_option maxRecDepth 100000 in
theorem servers_any (n : Int) (w : World) : Calls Tryd.prog 18 #[.int .i64 n] w fun e w' => e = .returned (.bool (decide (1 ≤ n) && decide (n ≤ 12))) ∧ w' = w := by
  by_cases h : 1 ≤ n
  · go_enter Tryd.func18, Tryd.ntmps18
    go_wp2_with fail
    go_ret
    exact ⟨by simp [h], rfl⟩
  · go_enter Tryd.func18, Tryd.ntmps18
    go_wp2_with fail
    go_ret
    exact ⟨by simp; omega, rfl⟩
set_option maxRecDepth 100000 in
theorem number_any (n : Int) (w : World) : Calls Tryd.prog 19 #[.int .i64 n] w fun e w' => e = .returned (.bool (decide (0 ≤ n) && decide (n ≤ 2147483647))) ∧ w' = w := by
  by_cases h : 0 ≤ n
  · go_enter Tryd.func19, Tryd.ntmps19
    go_wp2_with fail
    go_ret
    exact ⟨by simp [h], rfl⟩
  · go_enter Tryd.func19, Tryd.ntmps19
    go_wp2_with fail
    go_ret
    exact ⟨by simp; omega, rfl⟩
set_option maxRecDepth 100000 in
theorem refNumber_any (n : Int) (w : World) : Calls Tryd.prog 20 #[.int .i64 n] w fun e w' => e = .returned (.bool (decide (0 ≤ n) && decide (n ≤ 2147483647))) ∧ w' = w := by
  by_cases h : 0 ≤ n
  · go_enter Tryd.func20, Tryd.ntmps20
    go_wp2_with fail
    go_ret
    exact ⟨by simp [h], rfl⟩
  · go_enter Tryd.func20, Tryd.ntmps20
    go_wp2_with fail
    go_ret
    exact ⟨by simp; omega, rfl⟩

set_option maxRecDepth 100000 in
set_option maxHeartbeats 1000000 in
theorem leader_any (view n : Int) (w : World) :
    Calls Tryd.prog 7 #[.int .i64 view, .int .i64 n] w fun e w' => e = .returned (.tuple #[.int .i64 (leadV view n).1, .int .i64 (leadV view n).2]) ∧ w' = w := by
  have P := fun w => servers_any n w
  by_cases h1 : (1 ≤ n ∧ n ≤ 12)
  · by_cases h2 : (1 ≤ view ∧ view ≤ 2147483647)
    · have e : leadV view n = ((view - 1) % n, 0) := if_pos ⟨h1, h2⟩
      rw [e]
      obtain ⟨a1, a2⟩ := h1
      obtain ⟨a3, a4⟩ := h2
      have hb : (decide (1 ≤ n) && decide (n ≤ 12)) = true := by simp [a1, a2]
      rw [hb] at P
      clear hb e
      go_enter Tryd.func7, Tryd.ntmps7
      go_wp2_with (refine (P _).mono ?_; rintro e w' ⟨rfl, rfl⟩)
      go_ret2
      exact ⟨rfl, rfl⟩
    · have e : leadV view n = (0, 7) := if_neg (fun h => h2 h.2)
      rw [e]
      obtain ⟨a1, a2⟩ := h1
      have hb : (decide (1 ≤ n) && decide (n ≤ 12)) = true := by simp [a1, a2]
      rw [hb] at P
      clear hb e
      by_cases h3 : view < 1
      · clear h2
        go_enter Tryd.func7, Tryd.ntmps7
        go_wp2_with (refine (P _).mono ?_; rintro e w' ⟨rfl, rfl⟩)
        go_ret2
        exact ⟨rfl, rfl⟩
      · have h4 : 2147483647 < view := by omega
        clear h2
        go_enter Tryd.func7, Tryd.ntmps7
        go_wp2_with (refine (P _).mono ?_; rintro e w' ⟨rfl, rfl⟩)
        go_ret2
        exact ⟨rfl, rfl⟩
  · have e : leadV view n = (0, 7) := if_neg (fun h => h1 h.1)
    rw [e]
    have hb : (decide (1 ≤ n) && decide (n ≤ 12)) = false := by simp; omega
    rw [hb] at P
    clear hb e h1
    go_enter Tryd.func7, Tryd.ntmps7
    go_wp2_with (refine (P _).mono ?_; rintro e w' ⟨rfl, rfl⟩)
    go_ret2
    exact ⟨rfl, rfl⟩

set_option maxRecDepth 100000 in
set_option maxHeartbeats 1000000 in
theorem refLeader_any (view n : Int) (w : World) :
    Calls Tryd.prog 8 #[.int .i64 view, .int .i64 n] w fun e w' => e = .returned (.tuple #[.int .i64 (leadV view n).1, .int .i64 (leadV view n).2]) ∧ w' = w := by
  by_cases h1 : (1 ≤ n ∧ n ≤ 12)
  · by_cases h2 : (1 ≤ view ∧ view ≤ 2147483647)
    · have e : leadV view n = ((view - 1) % n, 0) := if_pos ⟨h1, h2⟩
      rw [e]
      obtain ⟨a1, a2⟩ := h1
      obtain ⟨a3, a4⟩ := h2
      go_enter Tryd.func8, Tryd.ntmps8
      go_wp2_with (fail)
      go_ret2
      exact ⟨rfl, rfl⟩
    · have e : leadV view n = (0, 7) := if_neg (fun h => h2 h.2)
      rw [e]
      obtain ⟨a1, a2⟩ := h1
      by_cases h3 : view < 1
      · clear h2
        go_enter Tryd.func8, Tryd.ntmps8
        go_wp2_with (fail)
        go_ret2
        exact ⟨rfl, rfl⟩
      · have h4 : 2147483647 < view := by omega
        clear h2
        go_enter Tryd.func8, Tryd.ntmps8
        go_wp2_with (fail)
        go_ret2
        exact ⟨rfl, rfl⟩
  · have e : leadV view n = (0, 7) := if_neg (fun h => h1 h.1)
    rw [e]
    by_cases h3 : n < 1
    · clear h1
      go_enter Tryd.func8, Tryd.ntmps8
      go_wp2_with (fail)
      go_ret2
      exact ⟨rfl, rfl⟩
    · have h4 : 12 < n := by omega
      clear h1
      go_enter Tryd.func8, Tryd.ntmps8
      go_wp2_with (fail)
      go_ret2
      exact ⟨rfl, rfl⟩

end Go.Proofs.YtnhbgjgfneoajaaDoor
