/-
  The statement BallotTurns: neighbouring views have different leaders, and Next finds each of them; conditions: none beyond the row's own (three tables of the library are laid as the program's text lays them).
-/
import Derived.Test.YtnhbgjgfneoajaaDoorRows
import Derived.Test.YtnhbgjgfneoajaaDoorCards
import Derived.Test.YtnhbgjgfneoajaaDoorTie
import Derived.Test.YtnhbgjgfneoajaaDoorStatus
import Derived.OpenShut
import Derived.ProofKit
import Derived.Below
import Derived.ShutString
import Derived.ChangeOld
import Derived.LaidLaws
import Derived.LaidHandle
import Derived.Lay
import Derived.Handed
import Derived.JoinedOf
import Derived.RowKitTokens
import Derived.SevenTiedAt
import Derived.MakeChecks
import Derived.LaidMore
import Derived.Stop.Joined
set_option linter.unusedVariables false
namespace Go.Proofs.YtnhbgjgfneoajaaDoor.ballotTurns
open Go.ChangeShapes Go.WideShapes Go.ChangeAt Go.RowKit
open Go.ChangeMaps (open_string shut_string)

/-- the servers that have led i views from view + 1 on, as bits -/
def seen (s r : Nat) : Nat → Nat
  | 0 => 0
  | i + 1 => seen s r i ||| 2 ^ ((r + i) % s)

theorem seen_facts : ∀ s : Fin 13, ∀ r : Fin 12, ∀ i : Fin 12, r.val < s.val → i.val < s.val →
    bits .and .u16 ((seen s.val r.val i.val : Int) / 2 ^ ((r.val + i.val) % s.val)) 1 = 0 ∧ bits .or .u16 (seen s.val r.val i.val : Int) (2 ^ ((r.val + i.val) % s.val)) = (seen s.val r.val (i.val + 1) : Int) := by decide +kernel

set_option maxRecDepth 100000 in
set_option maxHeartbeats 1000000 in
theorem walk (view0 n0 : Int) (w : World) (w0 : (Lit.int .u16 view0).wf = true) (w1 : (Lit.int .u8 n0).wf = true) :
    Calls Tryd.prog 4 #[.int .u16 view0, .int .u8 n0] w fun e w' => e = .returned (.bool true) ∧ Below w.heap.size w w' := by
  have hx1 : 0 ≤ view0 ∧ view0 ≤ 65535 := by simpa [Lit.wf, IntKind.min, IntKind.max, IntKind.signed, IntKind.bits] using w0
  have hx2 : 0 ≤ n0 ∧ n0 ≤ 255 := by simpa [Lit.wf, IntKind.min, IntKind.max, IntKind.signed, IntKind.bits] using w1
  obtain ⟨m, rfl⟩ := Int.eq_ofNat_of_zero_le hx1.1
  obtain ⟨c, rfl⟩ := Int.eq_ofNat_of_zero_le hx2.1
  have hm : m ≤ 65535 := by omega
  have hc : c ≤ 255 := by omega
  clear hx1 hx2 w0 w1
  have hs0 : ∃ s : Nat, (1 : Int) + (c : Int) % 12 = (s : Int) ∧ 1 ≤ s ∧ s ≤ 12 := ⟨1 + c % 12, by omega, by omega, by omega⟩
  go_enter Tryd.func4, Tryd.ntmps4
  go_wp2_with fail
  refine (balAwake_any w).mono ?_
  rintro e w1 ⟨rfl, hB⟩
  go_upto_region 4 with fail
  obtain ⟨s, hs, hs1, hs2⟩ := hs0
  rw [hs]
  clear hs
  go_wp2_with fail
  go_loopw [6, 7, 8, 9, 10, 11, 12, 20] (fun sn _ _ _ _ _ _ x wr => ∃ i : Nat, x = .int .i64 (i : Int) ∧ i ≤ s ∧ sn = .int .u16 (seen s (m % s) i : Int) ∧ Below w.heap.size w wr) (fun _ _ _ _ _ _ _ x _ => s - (intOf x).toNat)
  case atStart => exact ⟨0, rfl, by omega, rfl, hB⟩
  case round =>
    clear hB
    obtain ⟨i, rfl, hi, rfl, hB⟩ := hrel
    by_cases hlt : i < s
    · have hr : m % s < s := Nat.mod_lt _ (by omega)
      obtain ⟨q1, q2⟩ := seen_facts ⟨s, by omega⟩ ⟨m % s, by omega⟩ ⟨i, by omega⟩ hr hlt
      simp only at q1 q2
      have hk : (m % s + i) % s = (m + i) % s := Nat.mod_add_mod m s i
      rw [hk] at q1 q2
      have hkl : (m + i) % s < s := Nat.mod_lt _ (by omega)
      have P1 := fun w => leader_any ((m : Int) + 1 + (i : Int)) (s : Int) w
      have e1 : leadV ((m : Int) + 1 + (i : Int)) (s : Int) = ((((m + i) % s : Nat) : Int), 0) := by
        unfold leadV
        rw [if_pos ⟨⟨by omega, by omega⟩, by omega, by omega⟩]
        have : (m : Int) + 1 + (i : Int) - 1 = ((m + i : Nat) : Int) := by omega
        rw [this, Int.natCast_emod]
      rw [e1] at P1
      have hstep := step_key (m : Int) (((m + i) % s : Nat) : Int) (s : Int) (i : Int) ⟨by omega, by omega⟩ ⟨by omega, by omega⟩ (by omega) ⟨by omega, by omega⟩
      have hi2 := hstep.1 (by rw [Int.natCast_emod]; rfl)
      have P2 := fun w => next_any (m : Int) (((m + i) % s : Nat) : Int) (s : Int) w
      have e2 : nextV (m : Int) (((m + i) % s : Nat) : Int) (s : Int) = ((m : Int) + 1 + (i : Int), 0) := by
        unfold nextV
        rw [← hi2, if_pos ⟨⟨⟨by omega, by omega⟩, by omega, by omega⟩, by omega, by omega⟩, if_pos (by omega)]
      rw [e2] at P2
      generalize (m + i) % s = k at q1 q2 hkl P1 P2
      generalize hsn : seen s (m % s) i = sn at q1 q2
      generalize hsn1 : seen s (m % s) (i + 1) = sn1 at q2
      have q3 : IntKind.u16.wrap ((2 : Int) ^ k) = (2 : Int) ^ k := by
        have h1 : (2 : Nat) ^ k ≤ 2 ^ 11 := Nat.pow_le_pow_right (by omega) (by omega)
        have h2 : (2 : Int) ^ k = ((2 ^ k : Nat) : Int) := by push_cast; rfl
        have h3 : 0 < (2 : Nat) ^ k := Nat.two_pow_pos k
        rw [h2, IntKind.wrap_u16]
        generalize (2 : Nat) ^ k = p at h1 h3
        omega
      clear hstep hi2 e1 e2 hk hr
      have HS : ∀ _ : Unit, seen s (m % s) (i + 1) = sn1 := fun _ => hsn1
      clear hsn hsn1
      go_wp2_with fail
      refine (P1 _).mono ?_
      rintro e w' ⟨rfl, rfl⟩
      go_wp2_with fail
      refine (P2 _).mono ?_
      rintro e w' ⟨rfl, rfl⟩
      go_wp2_with fail
      go_roundw
      case rel => exact ⟨i + 1, by go_num, by omega, by rw [HS ()], hB⟩
      case measure => simp [intOf]; omega
    · obtain rfl : i = s := by omega
      go_wp2_with fail
      go_ret
      exact ⟨rfl, hB⟩


theorem own : ownKnob Tryd.prog.godebug = none := by kernel_rfl
theorem laidOut : laidOutB Tryd.prog = true := by kernel_rfl

set_option maxRecDepth 100000 in
theorem lifted (os : Os) (started : os.Started) (H : Type) (enc : TypeId × Value → H) :
    ReturnsInHanded {} Tryd.checked os 4 .any (fun w args => (Rows.ballotTurnsSpec.pre enc Tryd.prog Tryd.f4 Rows.ballotTurnsRow.domain false w args ∧ laidMetH Tryd.prog Rows.ballotTurnsRow.laid w) ∧ sizedMet enc Tryd.prog Tryd.f4 (OpenSpec.ofChange Rows.ballotTurnsSpec) false w args) (Rows.ballotTurnsSpec.post enc Tryd.prog Tryd.f4 false true false false) := by
  refine returnsInHanded_of_change_and (C := Tryd.checked) (X := fun w _ => laidMetH Tryd.prog Rows.ballotTurnsRow.laid w) (fun _ _ _ hh h => h.of_heap hh) own started (by kernel_rfl) Tryd.func4
    (ChangeSpec.witness_shaped (enc := enc) (C := Tryd.checked) (os := os) (X := fun w _ => laidMetH Tryd.prog Rows.ballotTurnsRow.laid w) false (World.laidAll Tryd.prog os Rows.ballotTurnsRow.laid) #[.int .u16 0, .int .u8 0] 8 (World.laidAll_os _ _ _)
      (World.shaped_of_ZipB (by kernel_rfl) (by kernel_rfl)) (by kernel_rfl) (by kernel_rfl) (by kernel_rfl)
      (by rw [MakeChecks.laidMetH_plain _ _ _ (by kernel_rfl)]; exact laidMet_laidAll _ (by kernel_rfl) (by kernel_rfl))) ?_
  intro W base args ds gs before hval0 hW hcnd _ hL _
  have hval : ∀ (j : Nat) t v, Tryd.f4.params[j]? = some t → args[j]? = some v → Value.okWide Tryd.prog W .any base t v := hval0
  have hW' := hW
  obtain ⟨p, q, hA0, hV, rfl, hfz, hnd⟩ := hW
  have hA : DataW.TrodAll enc Tryd.prog W 0 (fun _ => true) true Tryd.f4.params.toList args.toList ds p := hA0
  rw [Tryd.params4] at hA hval
  obtain ⟨v0, vs0, d0, ds0, p0, q0, hargs, rfl, rfl, h0, r0⟩ := trodAll_cons hA
  obtain ⟨v1, vs1, d1, ds1, p1, q1, rfl, rfl, rfl, h1, r1⟩ := trodAll_cons r0
  obtain ⟨rfl, rfl, rfl⟩ := trodAll_nil r1
  obtain rfl : args = #[v0, v1] := by cases args; simp_all
  obtain ⟨rfl, rfl⟩ := trodVars_none hV
  obtain ⟨a0, rfl, rfl, rfl, w0⟩ := open_int Tryd.underlying28 (hval 0 28 v0 rfl rfl) h0
  obtain ⟨a1, rfl, rfl, rfl, w1⟩ := open_int Tryd.underlying5 (hval 1 5 v1 rfl rfl) h1
  clear hA0 hval0
  refine (walk a0 a1 W w0 w1).mono fun e W' ⟨he, bel⟩ => ?_
  subst he
  exact ⟨_, rfl, _, _, _, [], _, [], hW', trodAll_mk1 (shut_bool Tryd.underlying4 _), (trodAll_cons_mk (shut_int Tryd.underlying28 w0) (trodAll_cons_mk (shut_int Tryd.underlying5 w1) trodAll_mk0)), rfl, bel.frame _, fun h => by cases h⟩

theorem over : Rows.ballotTurnsRow.holds Tryd.pinned (OpenSpec.ofChange Rows.ballotTurnsSpec) :=
  OpenClaim.holds_of_wide 4 Tryd.f4 rfl rfl rfl rfl rfl rfl rfl ⟨rfl, rfl, rfl, rfl, rfl⟩ rfl rfl rfl rfl rfl (by kernel_rfl) Tryd.func4 (by kernel_rfl)
    (of_decide_eq_true (by kernel_rfl)) (by unfold Func.isWrapper; first | (rw [if_pos (by decide +kernel)]; kernel_rfl) | (rw [if_neg (by decide +kernel)]; exact ⟨rfl, rfl⟩))
    (fun os started H enc _ => lifted os started H enc)

/-- the statement: the card -/
theorem proved : Rows.BallotTurnsCardSaid :=
  Claim7.holds_tied_plain_at .later [] [.data, .data, .data] true (true, "b20c2e075f4e133df883394281e1f614952e38fb2d3e53e161d2ba6f9371aac9") false over (fun _ h => by cases h) (by kernel_rfl) (fun _ h => by cases h) ballotTurns_row_tie rfl ⟨rfl, rfl⟩ (by kernel_rfl) rfl
    (fun f fn hf hfn => by
      obtain rfl : f = 4 := Option.some.inj ((show Tryd.prog.funcNamed "sederunt/sederuntlaw36.BallotTurns" = some 4 by kernel_rfl).symm.trans hf) |>.symm
      obtain rfl : fn = Tryd.f4 := (Option.some.inj (Tryd.func4.symm.trans hfn)).symm
      refine ⟨by kernel_rfl, fun j t ht => ?_⟩
      rw [Tryd.params4] at ht
      rcases j with _ | j
      · obtain rfl : t = 28 := by simpa using ht.symm
        exact (show Tryd.prog.wantsStandIn 28 = false by kernel_rfl)
      rcases j with _ | j
      · obtain rfl : t = 5 := by simpa using ht.symm
        exact (show Tryd.prog.wantsStandIn 5 = false by kernel_rfl)
      simp at ht
      )
    (by kernel_rfl)
#print axioms proved
end Go.Proofs.YtnhbgjgfneoajaaDoor.ballotTurns
