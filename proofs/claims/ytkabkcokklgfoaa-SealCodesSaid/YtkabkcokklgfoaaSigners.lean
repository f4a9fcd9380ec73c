/-
  Signers, as the examples call it: statements of one server.
-/
import Derived.Test.YtkabkcokklgfoaaSealAwake
import Derived.Test.YtkabkcokklgfoaaSame
import Derived.Deep.MidRow
set_option linter.unusedVariables false
namespace Go.Proofs.Ytkabkcokklgfoaa
open Go.RowKit

/-- the statement "x" with the right signature -/
def good (q : ByteArray × ByteArray) : Bool := q.1.toList == tx.toList && q.2.toList == (sigOf 2 3 3 0 tx).toList
def outOf (l : List (ByteArray × ByteArray)) : Int := if l.any good then 4 else 0

theorem outOf_snoc (l : List (ByteArray × ByteArray)) (q : ByteArray × ByteArray) : outOf (l ++ [q]) = if good q then 4 else outOf l := by
  unfold outOf
  rw [List.any_append]
  show (if (l.any good || (good q || false)) = true then (4 : Int) else 0) = _
  rcases Bool.eq_false_or_eq_true (good q) with h | h
  · rw [h, Bool.true_or, Bool.or_true]; rfl
  · rw [h, Bool.or_false, Bool.or_false]; rfl
theorem tx_list : tx.toList = [120] := Lib.toList_data tx
theorem inr0 : InRange 2 3 3 0 := by unfold InRange; omega

set_option maxRecDepth 100000 in
set_option maxHeartbeats 1000000 in
theorem signers_any (xs : List (ByteArray × ByteArray)) (b cap : Nat) (w : World) (hl : xs.length ≤ 10) (hd : ∀ q ∈ xs, q.1.size ≤ 64)
    (hx : ∀ i q, xs[i]? = some q → w.rangeAt b (i * 6) (sg 2 3 3 0 q.1 q.2)) :
    Calls Try.prog 13 #[.slice (some ⟨b, 0, none⟩) xs.length cap, .int .i64 3, .int .i64 3, .int .i64 0, .string tx] w fun e w' => e = .returned (.int .u16 (outOf xs)) ∧ Below w.heap.size w w' := by
  go_enter Try.func13, Try.ntmps13
  go_wp2_with fail
  go_loopw [11, 13, 14, 17] (fun o _ _ i wr => ∃ k : Nat, i = .int .i64 (k : Int) ∧ k ≤ xs.length ∧ o = .int .u16 (outOf (xs.take k)) ∧ Below w.heap.size w wr) (fun _ _ _ i _ => xs.length - (intOf i).toNat)
  case atStart => exact ⟨0, rfl, by omega, rfl, Below.refl _ _⟩
  case round =>
    obtain ⟨k, rfl, hk, rfl, hB⟩ := hrel
    by_cases hlt : k < xs.length
    · have hr0 := hx k _ (List.getElem?_eq_getElem hlt)
      have hb : b < w.heap.size := cell_lt (hr0 0 _ rfl)
      have hr : wr.rangeAt b (k * 6) (sg 2 3 3 0 xs[k].1 xs[k].2) := fun j v hv => by
        have h1 := hr0 j v hv
        unfold World.cell? at h1 ⊢
        rw [hB.block b hb]
        exact h1
      have hds := hd xs[k] (List.getElem_mem hlt)
      have ho := outOf_snoc (xs.take k) xs[k]
      rw [List.take_append_getElem hlt] at ho
      generalize xs[k] = q at hr hds ho
      obtain ⟨d, s⟩ := q
      simp only at hr hds
      go_upto_region 5 with (refine wpList_load_mid rfl 24 (.tmp 19) rfl b (k * 6) rfl _ _ hr Try.underlying24 rfl (by kernel_rfl) ?_)
      clear hr hr0
      generalize hwv : wr.alloc _ = wv
      have hV : Blk wr.heap.size (sg 2 3 3 0 d s) 24 wv := by rw [← hwv]; exact Blk.new _ _ wr
      have hBv : Below w.heap.size w wv := by rw [← hwv]; exact hB.alloc hB.size _
      clear hwv hB
      generalize wr.heap.size = p at hV ⊢
      obtain ⟨c0, c1, c2, c3, c4, c5⟩ := sg_at hV
      go_upto_region 6 with fail
      clear c0 c1 c2 c3 c4 c5
      generalize hwu : wv.alloc _ = wu
      have hU : Blk wv.heap.size (sg 2 3 3 0 tx s) 24 wu := by rw [← hwu]; exact Blk.new _ _ wv
      have hV2 : Blk p (sg 2 3 3 0 d s) 24 wu := by rw [← hwu]; exact hV.alloc _
      have hBu : Below w.heap.size w wu := by rw [← hwu]; exact hBv.alloc hBv.size _
      clear hwu hV hBv
      generalize wv.heap.size = p2 at hU ⊢
      obtain ⟨c0, c1, c2, c3, c4, c5⟩ := sg_at hV2
      obtain ⟨e0, e1, e2, e3, e4, e5⟩ := sg_at hU
      have hor : bits .or .u16 (outOf (xs.take k)) 4 = 4 := by unfold outOf; split <;> decide
      by_cases hdx : d.toList = [120]
      · have hdt : d = tx := bytes_eq (by rw [hdx, tx_list]; rfl)
        subst hdt
        have P : Calls Try.prog 11 #[.agg (sg 2 3 3 0 tx s).toArray] wu fun e w' => e = .returned (.bool (s.toList == (sigOf 2 3 3 0 tx).toList)) ∧ Below wu.heap.size wu w' := verify_any 2 3 3 0 tx s wu inr0 hds
        have hg : good (tx, s) = (s.toList == (sigOf 2 3 3 0 tx).toList) := by unfold good; simp
        rw [hg] at ho
        generalize (s.toList == (sigOf 2 3 3 0 tx).toList) = r at P ho
        have Ho : ∀ _ : Unit, _ := fun _ => ho
        clear ho
        go_wp2_with fail
        refine P.mono ?_
        rintro e w2 ⟨rfl, k2⟩
        have hB2 := hBu.trans (k2.mono hBu.size)
        have c0' : w2.cell? ⟨p, 0, none⟩ = some (.int .i64 2) := (hV2.keep k2).cell 0
        clear P c0 c1 c2 c3 c4 c5 e0 e1 e2 e3 e4 e5 k2 hBu
        cases r
        · go_wp2_with fail
          go_roundw
          case rel => exact ⟨k + 1, by go_num, by omega, by rw [Ho ()]; rfl, hB2⟩
          case measure => simp [intOf]; omega
        · go_wp2_with fail
          go_roundw
          case rel => exact ⟨k + 1, by go_num, by omega, by rw [Ho ()]; rfl, hB2⟩
          case measure => simp [intOf]; omega
      · have hg : good (d, s) = false := by
          unfold good
          rw [tx_list]
          simp [hdx]
        rw [hg] at ho
        go_wp2_with fail
        go_roundw
        case rel => exact ⟨k + 1, by go_num, by omega, by rw [ho]; rfl, hBu⟩
        case measure => simp [intOf]; omega
    · obtain rfl : k = xs.length := by omega
      rw [List.take_length]
      go_wp2_with fail
      go_ret
      exact ⟨rfl, hB⟩
end Go.Proofs.Ytkabkcokklgfoaa
