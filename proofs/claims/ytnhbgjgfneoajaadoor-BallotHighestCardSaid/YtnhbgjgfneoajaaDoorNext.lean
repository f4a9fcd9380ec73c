/-
  The next view of a server: the program's and the reference's.
-/
import Derived.Test.YtnhbgjgfneoajaaDoorLeader
set_option linter.unusedVariables false
namespace Go.Proofs.YtnhbgjgfneoajaaDoor
open Go.RowKit

/-- the next view that a server leads, and the error -/
def stepV (view server n : Int) : Int := (server - view) % n
def nextV (view server n : Int) : Int × Int :=
  if ((1 ≤ n ∧ n ≤ 12) ∧ (0 ≤ server ∧ server < n)) ∧ (0 ≤ view ∧ view ≤ 2147483647) then (if view + 1 + stepV view server n ≤ 2147483647 then (view + 1 + stepV view server n, 0) else (0, 7)) else (0, 7)

theorem twelve {n : Int} (h : 1 ≤ n ∧ n ≤ 12) : n = 1 ∨ n = 2 ∨ n = 3 ∨ n = 4 ∨ n = 5 ∨ n = 6 ∨ n = 7 ∨ n = 8 ∨ n = 9 ∨ n = 10 ∨ n = 11 ∨ n = 12 := by omega
theorem step_range (view server n : Int) (hn : 1 ≤ n ∧ n ≤ 12) : 0 ≤ stepV view server n ∧ stepV view server n < n := ⟨Int.emod_nonneg _ (by omega), Int.emod_lt_of_pos _ (by omega)⟩
theorem step_key (view server n k : Int) (hn : 1 ≤ n ∧ n ≤ 12) (hs : 0 ≤ server ∧ server < n) (hv : 0 ≤ view) (hk : 0 ≤ k ∧ k < n) : (view + k) % n = server ↔ k = stepV view server n := by
  unfold stepV
  rcases twelve hn with rfl | rfl | rfl | rfl | rfl | rfl | rfl | rfl | rfl | rfl | rfl | rfl <;> omega

set_option maxRecDepth 100000 in
set_option maxHeartbeats 1000000 in
theorem next_any (view server n : Int) (w : World) :
    Calls Tryd.prog 9 #[.int .i64 view, .int .i64 server, .int .i64 n] w fun e w' => e = .returned (.tuple #[.int .i64 (nextV view server n).1, .int .i64 (nextV view server n).2]) ∧ w' = w := by
  have P := fun w => servers_any n w
  have Q := fun w => number_any view w
  by_cases h1 : (1 ≤ n ∧ n ≤ 12)
  · have hb : (decide (1 ≤ n) && decide (n ≤ 12)) = true := by simp [h1.1, h1.2]
    rw [hb] at P
    clear hb
    by_cases h2 : server < 0
    · have e : nextV view server n = (0, 7) := if_neg (fun h => by omega)
      rw [e]
      go_enter Tryd.func9, Tryd.ntmps9
      go_wp2_with (refine (P _).mono ?_; rintro e w' ⟨rfl, rfl⟩)
      go_ret2
      exact ⟨rfl, rfl⟩
    by_cases h3 : n ≤ server
    · have e : nextV view server n = (0, 7) := if_neg (fun h => by omega)
      rw [e]
      go_enter Tryd.func9, Tryd.ntmps9
      go_wp2_with (refine (P _).mono ?_; rintro e w' ⟨rfl, rfl⟩)
      go_ret2
      exact ⟨rfl, rfl⟩
    by_cases h4 : (0 ≤ view ∧ view ≤ 2147483647)
    · have hb : (decide (0 ≤ view) && decide (view ≤ 2147483647)) = true := by simp [h4.1, h4.2]
      rw [hb] at Q
      clear hb
      have e : nextV view server n = if view + 1 + stepV view server n ≤ 2147483647 then (view + 1 + stepV view server n, 0) else (0, 7) := if_pos ⟨⟨h1, by omega⟩, h4⟩
      have hr := step_range view server n h1
      have hm : 0 ≤ view % n ∧ view % n < n := ⟨Int.emod_nonneg _ (by omega), Int.emod_lt_of_pos _ (by omega)⟩
      obtain ⟨a1, a2⟩ := h1
      obtain ⟨a3, a4⟩ := h4
      obtain ⟨m1, m2⟩ := hm
      obtain ⟨r1, r2⟩ := hr
      unfold stepV at e r1 r2
      have a5 : 0 ≤ server := by omega
      have a6 : server < n := by omega
      have a7 : 0 ≤ server - view % n + n := by omega
      clear h2 h3
      by_cases h5 : view + 1 + (server - view) % n ≤ 2147483647
      · rw [if_pos h5] at e
        rw [e]
        clear e
        go_enter Tryd.func9, Tryd.ntmps9
        go_wp2_with fail
        refine (P _).mono ?_
        rintro e w' ⟨rfl, rfl⟩
        go_wp2_with fail
        refine (Q _).mono ?_
        rintro e w' ⟨rfl, rfl⟩
        go_wp2_with fail
        go_ret2
        exact ⟨rfl, rfl⟩
      · rw [if_neg h5] at e
        rw [e]
        clear e
        go_enter Tryd.func9, Tryd.ntmps9
        go_wp2_with fail
        refine (P _).mono ?_
        rintro e w' ⟨rfl, rfl⟩
        go_wp2_with fail
        refine (Q _).mono ?_
        rintro e w' ⟨rfl, rfl⟩
        go_wp2_with fail
        go_ret2
        exact ⟨rfl, rfl⟩
    · have e : nextV view server n = (0, 7) := if_neg (fun h => h4 h.2)
      rw [e]
      have hb : (decide (0 ≤ view) && decide (view ≤ 2147483647)) = false := by simp; omega
      rw [hb] at Q
      have a5 : 0 ≤ server := by omega
      have a6 : server < n := by omega
      clear hb e h4 h2 h3
      go_enter Tryd.func9, Tryd.ntmps9
      go_wp2_with fail
      refine (P _).mono ?_
      rintro e w' ⟨rfl, rfl⟩
      go_wp2_with fail
      refine (Q _).mono ?_
      rintro e w' ⟨rfl, rfl⟩
      go_wp2_with fail
      go_ret2
      exact ⟨rfl, rfl⟩
  · have e : nextV view server n = (0, 7) := if_neg (fun h => h1 h.1.1)
    rw [e]
    have hb : (decide (1 ≤ n) && decide (n ≤ 12)) = false := by simp; omega
    rw [hb] at P
    clear hb e h1
    go_enter Tryd.func9, Tryd.ntmps9
    go_wp2_with (refine (P _).mono ?_; rintro e w' ⟨rfl, rfl⟩)
    go_ret2
    exact ⟨rfl, rfl⟩

set_option maxRecDepth 100000 in
set_option maxHeartbeats 1000000 in
theorem refNext_any (view server n : Int) (w : World) :
    Calls Tryd.prog 10 #[.int .i64 view, .int .i64 server, .int .i64 n] w fun e w' => e = .returned (.tuple #[.int .i64 (nextV view server n).1, .int .i64 (nextV view server n).2]) ∧ w' = w := by
  have Q := fun w => refNumber_any view w
  by_cases g1 : n < 1
  · have e : nextV view server n = (0, 7) := if_neg (fun h => by omega)
    rw [e]
    go_enter Tryd.func10, Tryd.ntmps10
    go_wp2_with fail
    go_ret2
    exact ⟨rfl, rfl⟩
  by_cases g2 : 12 < n
  · have e : nextV view server n = (0, 7) := if_neg (fun h => by omega)
    rw [e]
    go_enter Tryd.func10, Tryd.ntmps10
    go_wp2_with fail
    go_ret2
    exact ⟨rfl, rfl⟩
  by_cases h2 : server < 0
  · have e : nextV view server n = (0, 7) := if_neg (fun h => by omega)
    rw [e]
    go_enter Tryd.func10, Tryd.ntmps10
    go_wp2_with fail
    go_ret2
    exact ⟨rfl, rfl⟩
  by_cases h3 : n ≤ server
  · have e : nextV view server n = (0, 7) := if_neg (fun h => by omega)
    rw [e]
    go_enter Tryd.func10, Tryd.ntmps10
    go_wp2_with fail
    go_ret2
    exact ⟨rfl, rfl⟩
  have a1 : 1 ≤ n := by omega
  have a2 : n ≤ 12 := by omega
  have a5 : 0 ≤ server := by omega
  have a6 : server < n := by omega
  clear g1 g2 h2 h3
  by_cases h4 : (0 ≤ view ∧ view ≤ 2147483647)
  · have hb : (decide (0 ≤ view) && decide (view ≤ 2147483647)) = true := by simp [h4.1, h4.2]
    rw [hb] at Q
    clear hb
    have e : nextV view server n = if view + 1 + stepV view server n ≤ 2147483647 then (view + 1 + stepV view server n, 0) else (0, 7) := if_pos ⟨⟨⟨a1, a2⟩, a5, a6⟩, h4⟩
    have hr := step_range view server n ⟨a1, a2⟩
    have hkey := fun k : Int => step_key view server n k ⟨a1, a2⟩ ⟨a5, a6⟩ h4.1
    generalize stepV view server n = j at e hr hkey
    obtain ⟨j, rfl⟩ := Int.eq_ofNat_of_zero_le hr.1
    obtain ⟨a3, a4⟩ := h4
    have r2 := hr.2
    have HK := Lib.hid hkey
    have HE : ∀ _ : Unit, _ := fun _ => e
    clear e hr hkey
    go_enter Tryd.func10, Tryd.ntmps10
    go_wp2_with fail
    refine (Q _).mono ?_
    rintro e w' ⟨rfl, rfl⟩
    go_wp2_with fail
    go_loop [8] (fun v => ∃ k : Nat, v = .int .i64 (view + 1 + (k : Int)) ∧ k ≤ j) (fun v => (view + 20 - intOf v).toNat)
    case atStart => exact ⟨0, by simp, by omega⟩
    case round =>
      obtain ⟨k, rfl, hk⟩ := hrel
      have hkn : (k : Int) < n := by omega
      by_cases hM : view + 1 + (k : Int) ≤ 2147483647
      · have hv1 : view + 1 + (k : Int) - 1 = view + (k : Int) := by omega
        have hiff := HK.out (k : Int) ⟨by omega, hkn⟩
        by_cases hj : k = j
        · have hmod : (view + (k : Int)) % n = server := hiff.2 (by omega)
          have e2 : nextV view server n = (view + 1 + (k : Int), 0) := by rw [HE (), if_pos (by omega), hj]
          subst hj
          have hbe : ((view + (k : Int)) % n == server) = true := by rw [hmod]; simp
          clear hiff HE hmod
          go_wp2_with fail
          go_ret2
          exact ⟨rfl, rfl⟩
        · have hmod : ¬ (view + (k : Int)) % n = server := fun h => hj (by have := hiff.1 h; omega)
          have hbe : ((view + (k : Int)) % n == server) = false := by simpa using hmod
          clear hiff hmod
          go_wp2_with fail
          go_round
          case rel => exact ⟨k + 1, by go_num, by omega⟩
          case measure => simp [intOf]; omega
      · have e2 : nextV view server n = (0, 7) := by rw [HE (), if_neg (by omega)]
        have hM' : 2147483647 < view + 1 + (k : Int) := by omega
        clear HE hM
        go_wp2_with fail
        go_ret2
        exact ⟨rfl, rfl⟩
  · have e : nextV view server n = (0, 7) := if_neg (fun h => h4 h.2)
    rw [e]
    have hb : (decide (0 ≤ view) && decide (view ≤ 2147483647)) = false := by simp; omega
    rw [hb] at Q
    clear hb e h4
    go_enter Tryd.func10, Tryd.ntmps10
    go_wp2_with fail
    refine (Q _).mono ?_
    rintro e w' ⟨rfl, rfl⟩
    go_wp2_with fail
    go_ret2
    exact ⟨rfl, rfl⟩

end Go.Proofs.YtnhbgjgfneoajaaDoor
