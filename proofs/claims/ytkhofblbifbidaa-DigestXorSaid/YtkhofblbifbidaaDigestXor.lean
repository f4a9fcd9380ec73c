/-
  The statement DigestXor: the check sum of the xor of three texts of one length is the xor of their check sums; conditions: none beyond the row's own.
-/
import Derived.Test.YtkhofblbifbidaaRows
import Derived.Test.YtkhofblbifbidaaDigAwake
import Derived.Test.YtkhofblbifbidaaCrcLaw
import Derived.Test.YtkhofblbifbidaaXor
import Derived.OpenShut
import Derived.ProofKit
import Derived.Below
import Derived.ShutString
import Derived.ChangeOld
import Derived.Laws.Cover1
import Derived.BigQuiet
set_option linter.unusedVariables false
namespace Go.Proofs.Ytkhofblbifbidaa.digestXor
open Go.ChangeShapes Go.WideShapes Go.ChangeAt Go.RowKit
open Go.ChangeMaps (open_string shut_string)

theorem xors_get (a b : List UInt8) (i : Nat) (hi : i < a.length) (k : Nat) : (D.xors a b k).getD i 0 = if i < k then a.getD i 0 ^^^ b.getD i 0 else 0 := by
  induction k with
  | zero => simp [D.xors, List.getD_eq_getElem?_getD, hi]
  | succ k ih =>
    rw [D.xors, List.getD_eq_getElem?_getD, List.getElem?_set]
    by_cases e : k = i
    · subst e
      simp [D.xors_length, hi]
    · rw [if_neg e, ← List.getD_eq_getElem?_getD, ih]
      by_cases h : i < k
      · rw [if_pos h, if_pos (by omega)]
      · rw [if_neg h, if_neg (by omega)]
theorem byt_xor (s t u : List UInt8) (i : Nat) (h : s.getD i 0 = t.getD i 0 ^^^ u.getD i 0) : D.byt s i = D.byt t i ^^^ D.byt u i := by
  unfold D.byt
  rw [h]
  apply BitVec.eq_of_toNat_eq
  have hx := (t.getD i 0).toNat_lt
  have hy := (u.getD i 0).toNat_lt
  have hxy := ((t.getD i 0) ^^^ (u.getD i 0)).toNat_lt
  rw [BitVec.toNat_xor, BitVec.toNat_ofNat, BitVec.toNat_ofNat, BitVec.toNat_ofNat, Nat.mod_eq_of_lt (by omega), Nat.mod_eq_of_lt (by omega), Nat.mod_eq_of_lt (by omega), UInt8.toNat_xor]

/-- the calls of the statement, with plain names for what they return -/
theorem law3 (x y z : ByteArray) (n : Nat) (hx : x.size = n) (hy : y.size = n) (hz : z.size = n) (hn : n ≤ 1000000) :
    ∃ (p1 p2 p3 p12 p : Int) (u v : ByteArray), bits .xor .u32 p1 p2 = p12 ∧ bits .xor .u32 p12 p3 = p ∧
      (∀ w, Calls Try.prog 8 #[.string x] w fun e w' => e = .returned (.int .u32 p1) ∧ w' = w) ∧
      (∀ w, Calls Try.prog 8 #[.string y] w fun e w' => e = .returned (.int .u32 p2) ∧ w' = w) ∧
      (∀ w, Calls Try.prog 8 #[.string z] w fun e w' => e = .returned (.int .u32 p3) ∧ w' = w) ∧
      (∀ w, Calls Try.prog 10 #[.string x, .string y] w fun e w' => e = .returned (.string u) ∧ Below w.heap.size w w') ∧
      (∀ w, Calls Try.prog 10 #[.string u, .string z] w fun e w' => e = .returned (.string v) ∧ Below w.heap.size w w') ∧
      (∀ w, Calls Try.prog 8 #[.string v] w fun e w' => e = .returned (.int .u32 p) ∧ w' = w) := by
  have hlx : x.data.toList.length = n := by rw [← hx]; exact Array.length_toList
  have hly : y.data.toList.length = n := by rw [← hy]; exact Array.length_toList
  have hlz : z.data.toList.length = n := by rw [← hz]; exact Array.length_toList
  have hu : (S (D.xors x.data.toList y.data.toList n)).size = n := by rw [S_size, D.xors_length, hlx]
  have hv : (S (D.xors (D.xors x.data.toList y.data.toList n) z.data.toList n)).size = n := by rw [S_size, D.xors_length, D.xors_length, hlx]
  have key : D.crc (D.xors (D.xors x.data.toList y.data.toList n) z.data.toList n) = D.crc x.data.toList ^^^ D.crc y.data.toList ^^^ D.crc z.data.toList := by
    refine D.crc_xor3 _ _ _ _ n (by rw [D.xors_length, D.xors_length, hlx]) hlx hly hlz ?_
    intro i hi
    have h1 := xors_get x.data.toList y.data.toList i (by omega) n
    have h2 := xors_get (D.xors x.data.toList y.data.toList n) z.data.toList i (by rw [D.xors_length]; omega) n
    rw [if_pos hi] at h1 h2
    rw [byt_xor _ _ _ i h2, byt_xor _ _ _ i h1]
  refine ⟨N (D.crc x.data.toList), N (D.crc y.data.toList), N (D.crc z.data.toList), N (D.crc x.data.toList ^^^ D.crc y.data.toList), N (D.crc x.data.toList ^^^ D.crc y.data.toList ^^^ D.crc z.data.toList),
    S (D.xors x.data.toList y.data.toList n), S (D.xors (D.xors x.data.toList y.data.toList n) z.data.toList n), wxor _ _, wxor _ _, fun w => crc_any x w (by omega), fun w => crc_any y w (by omega), fun w => crc_any z w (by omega), fun w => ?_, fun w => ?_, fun w => ?_⟩
  · have h := refXor_any x y w (by omega) (by omega)
    rw [hx] at h
    exact h
  · have h := refXor_any (S (D.xors x.data.toList y.data.toList n)) z w (by rw [hu]; exact hz) (by rw [hu]; exact hn)
    rw [S_list, hu] at h
    exact h
  · have h := crc_any (S (D.xors (D.xors x.data.toList y.data.toList n) z.data.toList n)) w (by rw [hv]; omega)
    rw [S_list, key] at h
    exact h

set_option maxRecDepth 100000 in
set_option maxHeartbeats 1000000 in
theorem walk (a b c : ByteArray) (w : World) (w0 : a.size ≤ maxLen) (w1 : b.size ≤ maxLen) (w2 : c.size ≤ maxLen) :
    Calls Try.prog 5 #[.string a, .string b, .string c] w fun e w' => e = .returned (.bool true) ∧ Below w.heap.size w w' := by
  unfold maxLen at w0 w1 w2
  by_cases hs : a.size ≤ 2000
  · have hs1 : (a.size : Int) ≤ 2000 := by omega
    obtain ⟨n, hn⟩ : ∃ n : Nat, n = min a.size (min b.size c.size) := ⟨_, rfl⟩
    obtain ⟨p1, p2, p3, p12, p, u, v, q1, q2, c1, c2, c3, c4, c5, c6⟩ := law3 (a.extract 0 n) (b.extract 0 n) (c.extract 0 n) n (by simp; omega) (by simp; omega) (by simp; omega) (by omega)
    have na : (n : Int) ≤ a.size := by omega
    have nb : (n : Int) ≤ b.size := by omega
    have nc : (n : Int) ≤ c.size := by omega
    have hmin : ∀ u : World, (Builtin.min_ #[3, 3, 3] 3 #[.int .i64 (a.size : Int), .int .i64 (b.size : Int), .int .i64 (c.size : Int)]).run Try.prog u = .ok (.int .i64 (n : Int)) u := fun u => by
      have e : (n : Int) = if (c.size : Int) < (if (b.size : Int) < a.size then (b.size : Int) else a.size) then (c.size : Int) else (if (b.size : Int) < a.size then (b.size : Int) else a.size) := by split <;> split at * <;> omega
      rw [e]
      simp [Builtin.min_, Builtin.min2]
    clear hn
    go_enter Try.func5, Try.ntmps5
    go_wp2_with fail
    refine (digAwake_any w).mono ?_
    rintro e w1 ⟨rfl, hB⟩
    go_upto_region 4 with fail
    go_quiet (fail)
    go_wp2_with fail
    refine (c4 _).mono ?_
    rintro e w2 ⟨rfl, hB2⟩
    go_wp2_with fail
    refine (c5 _).mono ?_
    rintro e w3 ⟨rfl, hB3⟩
    go_wp2_with fail
    refine (c6 _).mono ?_
    rintro e w4 ⟨rfl, rfl⟩
    go_wp2_with fail
    refine (c1 _).mono ?_
    rintro e w5 ⟨rfl, rfl⟩
    go_wp2_with fail
    refine (c2 _).mono ?_
    rintro e w6 ⟨rfl, rfl⟩
    go_wp2_with fail
    refine (c3 _).mono ?_
    rintro e w7 ⟨rfl, rfl⟩
    go_wp2_with fail
    go_ret
    have hB4 : Below w.heap.size w (w1.drewN nq) := ⟨hB.os, hB.tape, hB.output, hB.size, hB.block⟩
    have hB5 := hB4.trans (hB2.mono hB4.size)
    exact ⟨rfl, hB5.trans (hB3.mono hB5.size)⟩
  · have hs1 : (2000 : Int) < a.size := by omega
    go_enter Try.func5, Try.ntmps5
    go_wp2_with fail
    refine (digAwake_any w).mono ?_
    rintro e w1 ⟨rfl, hB⟩
    go_wp2_with fail
    refine (digAwake_any w1).mono ?_
    rintro e w2 ⟨rfl, hB2⟩
    go_wp2_with fail
    go_ret
    exact ⟨rfl, hB.trans (hB2.mono hB.size)⟩


theorem own : ownKnob Try.prog.godebug = none := by kernel_rfl
theorem laidOut : laidOutB Try.prog = true := by kernel_rfl

set_option maxRecDepth 100000 in
theorem lifted (os : Os) (started : os.Started) (H : Type) (enc : TypeId × Value → H) :
    ReturnsInHanded {} Try.checked os 5 .any (Rows.digestXorSpec.pre6 enc Try.prog Try.f5 Rows.digestXorRow.domain false) (Rows.digestXorSpec.post enc Try.prog Try.f5 false true false false) := by
  refine returnsInHanded_of_change (C := Try.checked) own started (by kernel_rfl) Try.func5
    (ChangeSpec.witness6 (enc := enc) (C := Try.checked) false ⟨#[], #[.string ByteArray.empty, .string ByteArray.empty, .string ByteArray.empty], []⟩ 8 (by kernel_rfl) (by kernel_rfl) (by kernel_rfl) (by kernel_rfl)) ?_
  intro W base args ds gs before hval0 hW hcnd _
  have hval : ∀ (j : Nat) t v, Try.f5.params[j]? = some t → args[j]? = some v → Value.okWide Try.prog W .any base t v := hval0
  have hW' := hW
  obtain ⟨p, q, hA0, hV, rfl, hfz, hnd⟩ := hW
  have hA : DataW.TrodAll enc Try.prog W 0 (fun _ => true) true Try.f5.params.toList args.toList ds p := hA0
  rw [Try.params5] at hA hval
  obtain ⟨v0, vs0, d0, ds0, p0, q0, hargs, rfl, rfl, h0, r0⟩ := trodAll_cons hA
  obtain ⟨v1, vs1, d1, ds1, p1, q1, rfl, rfl, rfl, h1, r1⟩ := trodAll_cons r0
  obtain ⟨v2, vs2, d2, ds2, p2, q2, rfl, rfl, rfl, h2, r2⟩ := trodAll_cons r1
  obtain ⟨rfl, rfl, rfl⟩ := trodAll_nil r2
  obtain rfl : args = #[v0, v1, v2] := by cases args; simp_all
  obtain ⟨rfl, rfl⟩ := trodVars_none hV
  obtain ⟨a0, rfl, rfl, rfl, w0⟩ := open_string Try.underlying9 (hval 0 9 v0 rfl rfl) h0
  obtain ⟨a1, rfl, rfl, rfl, w1⟩ := open_string Try.underlying9 (hval 1 9 v1 rfl rfl) h1
  obtain ⟨a2, rfl, rfl, rfl, w2⟩ := open_string Try.underlying9 (hval 2 9 v2 rfl rfl) h2
  clear hA0 hval0
  refine (walk a0 a1 a2 W w0 w1 w2).mono fun e W' ⟨he, bel⟩ => ?_
  subst he
  exact ⟨_, rfl, _, _, _, [], _, [], hW', trodAll_mk1 (shut_bool Try.underlying4 _), (trodAll_cons_mk (shut_string Try.underlying9 w0) (trodAll_cons_mk (shut_string Try.underlying9 w1) (trodAll_cons_mk (shut_string Try.underlying9 w2) trodAll_mk0))), rfl, bel.frame _, fun h => by cases h⟩

theorem over : Rows.digestXorRow.holds Try.pinned (OpenSpec.ofChange Rows.digestXorSpec) :=
  OpenClaim.holds_of_wide 5 Try.f5 rfl rfl rfl rfl rfl rfl rfl ⟨rfl, rfl, rfl, rfl, rfl⟩ rfl rfl rfl rfl rfl (by kernel_rfl) Try.func5 (by kernel_rfl)
    (of_decide_eq_true (by kernel_rfl)) (by unfold Func.isWrapper; first | (rw [if_pos (by decide +kernel)]; kernel_rfl) | (rw [if_neg (by decide +kernel)]; exact ⟨rfl, rfl⟩))
    (fun os started H enc _ => lifted os started H enc)

/-- the statement -/
theorem proved : Rows.DigestXorSaid := over
#print axioms proved
end Go.Proofs.Ytkhofblbifbidaa.digestXor
