/-
  The statement DigestBurst: a change within 32 neighbouring bits changes the check sum; conditions: none beyond the row's own.
-/
import Derived.Test.YtkhofblbifbidaaRows
import Derived.Test.YtkhofblbifbidaaDigAwake
import Derived.Test.YtkhofblbifbidaaBurstLaw
import Derived.Test.YtkhofblbifbidaaOwn
import Derived.Test.YtkhofblbifbidaaSum
import Derived.Test.YtkhofblbifbidaaXor
import Derived.OpenShut
import Derived.ProofKit
import Derived.Below
import Derived.ShutString
import Derived.ChangeOld
import Derived.BigQuiet
set_option linter.unusedVariables false
namespace Go.Proofs.Ytkhofblbifbidaa.digestBurst
open Go.ChangeShapes Go.WideShapes Go.ChangeAt Go.RowKit
open Go.ChangeMaps (open_string shut_string)

theorem Own.set8 {B g n cap : Nat} {l : List UInt8} {w : World} (h : Own B (.slice (some ⟨g, 0, none⟩) n cap) l w) (j : Nat) (hj : j < l.length) (x : UInt8) :
    Own B (.slice (some ⟨g, 0, none⟩) n cap) (l.set j x) (w.setCell ⟨g, j, none⟩ (.int .u8 (x.toNat : Int))) := by
  obtain ⟨g', cap', cs, fz, hv, hg, hb, hf, h1, h2, h3, h4⟩ := h
  injection hv with e1 e2 e3
  injection e1 with e1
  injection e1 with e1
  subst e1
  subst e2
  subst e3
  have e : w.setCell ⟨g, j, none⟩ (.int .u8 (x.toNat : Int)) = w.setRow g (cs.setIfInBounds j (.int .u8 (x.toNat : Int))) := setCell_eq_setRow w g j cs 5 fz _ hb
  rw [e]
  refine ⟨g, cap, _, fz, by simp, hg, setRow_heap w g cs _ _ fz hb, ?_, by simpa using h1, h2, by simp [h3], ?_⟩
  · intro k hk
    have := hf k hk
    simp only [World.frozen?, hb, setRow_heap w g cs _ _ fz hb] at this ⊢
    exact this
  · rw [List.length_set, Array.toList_setIfInBounds, List.take_set, h4, bs_set]
theorem Own.free {B g n cap : Nat} {l : List UInt8} {w : World} (h : Own B (.slice (some ⟨g, 0, none⟩) n cap) l w) (j : Nat) (hj : j < l.length) : w.frozen? ⟨g, j, none⟩ = false := by
  obtain ⟨g', cap', cs, fz, hv, hg, hb, hf, h1, h2, h3, h4⟩ := h
  injection hv with e1 e2 e3
  injection e1 with e1
  injection e1 with e1
  subst e1
  exact hf j (by omega)

theorem step8 (z : UInt8) (c k n : Nat) (hc : c < 4294967296) (hk : k < 8) :
    bits .xor .u8 (z.toNat : Int) (IntKind.u64.wrap ((c : Int) * 2 ^ k) / 2 ^ (8 * n) % 256) = ((z ^^^ UInt8.ofNat (c * 2 ^ k / 256 ^ n % 256)).toNat : Int) := by
  have h2 : 2 ^ k ≤ 2 ^ 7 := Nat.pow_le_pow_right (by omega) (by omega)
  have hV : c * 2 ^ k ≤ c * 2 ^ 7 := Nat.mul_le_mul_left c h2
  have e1 : IntKind.u64.wrap ((c : Int) * 2 ^ k) = ((c * 2 ^ k : Nat) : Int) := by
    rw [IntKind.wrap_u64]
    have e0 : (c : Int) * 2 ^ k = ((c * 2 ^ k : Nat) : Int) := by push_cast; rfl
    rw [e0]
    omega
  have e2 : (2 : Int) ^ (8 * n) = ((256 ^ n : Nat) : Int) := by
    rw [show (256 : Nat) = 2 ^ 8 from rfl, ← Nat.pow_mul]
    push_cast
    rfl
  rw [e1, e2]
  generalize c * 2 ^ k = V
  generalize 256 ^ n = q
  have e3 : (V : Int) / (q : Int) % 256 = ((V / q % 256 : Nat) : Int) := by rw [Int.natCast_emod, Int.natCast_ediv]; rfl
  rw [e3]
  have hd : V / q % 256 < 256 := Nat.mod_lt _ (by omega)
  generalize V / q % 256 = d at hd
  have e4 : ((UInt8.ofNat d).toNat : Int) = (d : Int) := by rw [UInt8.toNat_ofNat']; omega
  rw [← e4]
  exact xor_u8 z (UInt8.ofNat d)

theorem short (s : ByteArray) (m c : Nat) (w : World) (hm : m < 65536) (hc : c < 4294967296) (h : ((s.size : Int) < 5 ∨ (2000 : Int) < s.size) ∨ c = 0) :
    Calls Try.prog 4 #[.string s, .int .u16 (m : Int), .int .u32 (c : Int)] w fun e w' => e = .returned (.bool true) ∧ Below w.heap.size w w' := by
  have ht : (decide ((s.size : Int) < 5) || decide ((2000 : Int) < s.size) || ((c : Int) == 0)) = true := by
    rcases h with (h | h) | h
    · simp [h]
    · simp [h]
    · simp [h]
  have ht' := h
  clear h
  go_enter Try.func4, Try.ntmps4
  go_wp2_with fail
  refine (digAwake_any w).mono ?_
  rintro e w1 ⟨rfl, hB⟩
  go_wp2_with fail
  all_goals refine (digAwake_any w1).mono ?_
  all_goals rintro e w2 ⟨rfl, hB2⟩
  all_goals go_wp2_with fail
  all_goals go_ret
  all_goals exact ⟨rfl, hB.trans (hB2.mono hB.size)⟩

set_option maxRecDepth 100000 in
set_option maxHeartbeats 1000000 in
theorem walk (s : ByteArray) (at0 c0 : Int) (w : World) (w0 : s.size ≤ maxLen) (w1 : (Lit.int .u16 at0).wf = true) (w2 : (Lit.int .u32 c0).wf = true) :
    Calls Try.prog 4 #[.string s, .int .u16 at0, .int .u32 c0] w fun e w' => e = .returned (.bool true) ∧ Below w.heap.size w w' := by
  have hx1 : 0 ≤ at0 ∧ at0 ≤ 65535 := by simpa [Lit.wf, IntKind.min, IntKind.max, IntKind.signed, IntKind.bits] using w1
  have hx2 : 0 ≤ c0 ∧ c0 ≤ 4294967295 := by simpa [Lit.wf, IntKind.min, IntKind.max, IntKind.signed, IntKind.bits] using w2
  obtain ⟨m, rfl⟩ := Int.eq_ofNat_of_zero_le hx1.1
  obtain ⟨c, rfl⟩ := Int.eq_ofNat_of_zero_le hx2.1
  have hm : m < 65536 := by omega
  have hc : c < 4294967296 := by omega
  clear hx1 hx2 w1 w2
  unfold maxLen at w0
  by_cases hall : ((s.size : Int) < 5 ∨ (2000 : Int) < s.size) ∨ c = 0
  · exact short s m c w hm hc hall
  have hs : ¬ s.size < 5 := by omega
  have hs2 : ¬ 2000 < s.size := by omega
  have hc0 : ¬ c = 0 := by omega
  clear hall
  have g1 : (5 : Int) ≤ s.size := by omega
  have g2 : (s.size : Int) ≤ 2000 := by omega
  have g3 : ((c : Int) == 0) = false := by simpa using hc0
  go_enter Try.func4, Try.ntmps4
  go_wp2_with fail
  refine (digAwake_any w).mono ?_
  rintro e w1 ⟨rfl, hB⟩
  have hconv := Lib.run_convert_string_bytes (P := Try.prog) w1 9 27 5 s Try.underlying9 Try.underlying27 Try.underlying5
  go_upto_region 4 with fail
  have hi0 : 0 ≤ (m : Int) / 8 % ((s.size : Int) - 4) ∧ (m : Int) / 8 % ((s.size : Int) - 4) < (s.size : Int) - 4 := ⟨Int.emod_nonneg _ (by omega), Int.emod_lt_of_pos _ (by omega)⟩
  have hk0 : 0 ≤ (m : Int) % 8 ∧ (m : Int) % 8 < 8 := ⟨by omega, by omega⟩
  generalize (m : Int) / 8 % ((s.size : Int) - 4) = I at hi0 ⊢
  generalize (m : Int) % 8 = K at hk0 ⊢
  obtain ⟨i, rfl⟩ := Int.eq_ofNat_of_zero_le hi0.1
  obtain ⟨k, rfl⟩ := Int.eq_ofNat_of_zero_le hk0.1
  have hi : i + 5 ≤ s.size := by omega
  have hk : k < 8 := by omega
  clear hi0 hk0
  have hl : s.data.toList.length = s.size := Array.length_toList
  have hbl := D.burst_length s.data.toList i (c * 2 ^ k)
  rw [hl] at hbl
  go_upto_region 5 with fail
  clear hconv
  have ho := own_of_text w1.heap.size w1 s (Nat.le_refl _) ⟨grownCap_le_maxLen _ _ _ _ (by unfold maxLen; omega), grownCap_ge _ _ _ _⟩
  have hF := below_text w1 5 s
  have hBg := hB.size
  generalize Lib.bytesWorld w1 5 s = wb at ho hF ⊢
  generalize grownCap w1 s.size 0 5 = cap at ho ⊢
  have hBb := hB.trans (hF.mono hB.size)
  clear hB hF
  generalize w1.heap.size = g at ho hBg ⊢
  go_wp2_with fail
  go_loopw [10, 40] (fun _ x wr => ∃ n : Nat, x = .int .i64 (n : Int) ∧ n ≤ 5 ∧ Own g (.slice (some ⟨g, 0, none⟩) s.size cap) (D.burst s.data.toList i (c * 2 ^ k) n) wr ∧ Below w.heap.size w wr) (fun _ x _ => 5 - (intOf x).toNat)
  case atStart => exact ⟨0, rfl, by omega, ho, hBb⟩
  case round =>
    clear ho hBb
    obtain ⟨n, rfl, hn, ho, hB⟩ := hrel
    by_cases hlt : n < 5
    · go_upto_region 8 with fail
      have hm1 := hbl n
      have hs1 : D.burst s.data.toList i (c * 2 ^ k) (n + 1) = (D.burst s.data.toList i (c * 2 ^ k) n).set (i + n) ((D.burst s.data.toList i (c * 2 ^ k) n).getD (i + n) 0 ^^^ UInt8.ofNat (c * 2 ^ k / 256 ^ n % 256)) := rfl
      have c1 := Own.cell ho (i + n) (.int .u8 (((D.burst s.data.toList i (c * 2 ^ k) n).getD (i + n) 0).toNat : Int)) (by rw [bs_get _ _ (by omega)])
      have f1 := Own.free ho (i + n) (by omega)
      have ho2 := Own.set8 ho (i + n) (by omega) ((D.burst s.data.toList i (c * 2 ^ k) n).getD (i + n) 0 ^^^ UInt8.ofNat (c * 2 ^ k / 256 ^ n % 256))
      rw [← hs1] at ho2
      generalize (D.burst s.data.toList i (c * 2 ^ k) n).getD (i + n) 0 = z at c1 ho2
      have HO := Lib.hid ho2
      clear ho ho2 hs1 hm1
      have hB2 := hB.setCell (p := ⟨g, i + n, none⟩) hBg (.int .u8 ((z ^^^ UInt8.ofNat (c * 2 ^ k / 256 ^ n % 256)).toNat : Int))
      have hst := step8 z c k n hc hk
      have HS : ∀ _ : Unit, _ := fun _ => hst
      clear hst
      refine region_tail 16 (by kernel_rfl) (by kernel_rfl) ?_
      simp only [List.take_succ_cons, List.take_zero, List.drop_succ_cons, List.drop_zero]
      repeat (first | go_big_quiet_skip | (go_big_quiet_want; go_big_quiet_op; first | go_big_quiet_on | (apply Exists.intro; refine And.intro ?_ ?_; (focus (fail)); go_big_quiet_on)))
      refine wpQuiet_nil ?_
      go_wp2_with fail
      go_roundw
      case rel =>
        rw [HS ()]
        exact ⟨n + 1, by go_num, by omega, HO.out, hB2.drew⟩
      case measure => simp [intOf]; omega
    · obtain rfl : n = 5 := by omega
      obtain ⟨out, hout⟩ : ∃ out, D.burst s.data.toList i (c * 2 ^ k) 5 = out := ⟨_, rfl⟩
      have hol : out.length = s.size := by rw [← hout]; exact hbl 5
      have hne := D.burst_crc s.data.toList i c k (by omega) hc0 hc hk
      rw [hout] at ho hne
      have hconv := run_convert_bytes_back (P := Try.prog) wr 27 9 5 ⟨g, 0, none⟩ cap out Try.underlying27 Try.underlying5 Try.underlying9 (fun j hj => by
        have e2 : (⟨g, 0, none⟩ : Addr).add j = ⟨g, 0 + j, none⟩ := Addr.add_mid g 0 j
        rw [e2, Nat.zero_add]
        refine Own.cell ho j _ ?_
        rw [bs_get _ _ hj, List.getD_eq_getElem?_getD, List.getElem?_eq_getElem hj]
        rfl)
      rw [hol] at hconv
      have P := fun w => crc_any (S out) w (by rw [S_size]; omega)
      have Q := fun w => crc_any s w (by omega)
      rw [S_list] at P
      have hpq : (N (D.crc out) != N (D.crc s.data.toList)) = true := by
        simp only [bne_iff_ne, ne_eq]
        intro h
        apply hne
        unfold N at h
        exact BitVec.eq_of_toNat_eq (by omega)
      generalize N (D.crc out) = p at P hpq
      generalize N (D.crc s.data.toList) = q at Q hpq
      clear ho hout hne hol hbl
      go_wp2_with fail
      refine (P _).mono ?_
      rintro e w2 ⟨rfl, rfl⟩
      go_wp2_with fail
      refine (Q _).mono ?_
      rintro e w3 ⟨rfl, rfl⟩
      go_wp2_with fail
      go_ret
      exact ⟨rfl, hB⟩


theorem own : ownKnob Try.prog.godebug = none := by kernel_rfl
theorem laidOut : laidOutB Try.prog = true := by kernel_rfl

set_option maxRecDepth 100000 in
theorem lifted (os : Os) (started : os.Started) (H : Type) (enc : TypeId × Value → H) :
    ReturnsInHanded {} Try.checked os 4 .any (Rows.digestBurstSpec.pre6 enc Try.prog Try.f4 Rows.digestBurstRow.domain false) (Rows.digestBurstSpec.post enc Try.prog Try.f4 false true false false) := by
  refine returnsInHanded_of_change (C := Try.checked) own started (by kernel_rfl) Try.func4
    (ChangeSpec.witness6 (enc := enc) (C := Try.checked) false ⟨#[], #[.string ByteArray.empty, .int .u16 0, .int .u32 0], []⟩ 8 (by kernel_rfl) (by kernel_rfl) (by kernel_rfl) (by kernel_rfl)) ?_
  intro W base args ds gs before hval0 hW hcnd _
  have hval : ∀ (j : Nat) t v, Try.f4.params[j]? = some t → args[j]? = some v → Value.okWide Try.prog W .any base t v := hval0
  have hW' := hW
  obtain ⟨p, q, hA0, hV, rfl, hfz, hnd⟩ := hW
  have hA : DataW.TrodAll enc Try.prog W 0 (fun _ => true) true Try.f4.params.toList args.toList ds p := hA0
  rw [Try.params4] at hA hval
  obtain ⟨v0, vs0, d0, ds0, p0, q0, hargs, rfl, rfl, h0, r0⟩ := trodAll_cons hA
  obtain ⟨v1, vs1, d1, ds1, p1, q1, rfl, rfl, rfl, h1, r1⟩ := trodAll_cons r0
  obtain ⟨v2, vs2, d2, ds2, p2, q2, rfl, rfl, rfl, h2, r2⟩ := trodAll_cons r1
  obtain ⟨rfl, rfl, rfl⟩ := trodAll_nil r2
  obtain rfl : args = #[v0, v1, v2] := by cases args; simp_all
  obtain ⟨rfl, rfl⟩ := trodVars_none hV
  obtain ⟨a0, rfl, rfl, rfl, w0⟩ := open_string Try.underlying9 (hval 0 9 v0 rfl rfl) h0
  obtain ⟨a1, rfl, rfl, rfl, w1⟩ := open_int Try.underlying26 (hval 1 26 v1 rfl rfl) h1
  obtain ⟨a2, rfl, rfl, rfl, w2⟩ := open_int Try.underlying23 (hval 2 23 v2 rfl rfl) h2
  clear hA0 hval0
  refine (walk a0 a1 a2 W w0 w1 w2).mono fun e W' ⟨he, bel⟩ => ?_
  subst he
  exact ⟨_, rfl, _, _, _, [], _, [], hW', trodAll_mk1 (shut_bool Try.underlying4 _), (trodAll_cons_mk (shut_string Try.underlying9 w0) (trodAll_cons_mk (shut_int Try.underlying26 w1) (trodAll_cons_mk (shut_int Try.underlying23 w2) trodAll_mk0))), rfl, bel.frame _, fun h => by cases h⟩

theorem over : Rows.digestBurstRow.holds Try.pinned (OpenSpec.ofChange Rows.digestBurstSpec) :=
  OpenClaim.holds_of_wide 4 Try.f4 rfl rfl rfl rfl rfl rfl rfl ⟨rfl, rfl, rfl, rfl, rfl⟩ rfl rfl rfl rfl rfl (by kernel_rfl) Try.func4 (by kernel_rfl)
    (of_decide_eq_true (by kernel_rfl)) (by unfold Func.isWrapper; first | (rw [if_pos (by decide +kernel)]; kernel_rfl) | (rw [if_neg (by decide +kernel)]; exact ⟨rfl, rfl⟩))
    (fun os started H enc _ => lifted os started H enc)

/-- the statement -/
theorem proved : Rows.DigestBurstSaid := over
#print axioms proved
end Go.Proofs.Ytkhofblbifbidaa.digestBurst
