/-
  The Hash's sum: padding, the last blocks, and the bytes.
-/
import Derived.Test.YtnhbgjgfneoajaaDoorHash
import Derived.Test.YtnhbgjgfneoajaaDoorOwn
import Derived.Laws.IdiomStrings
set_option linter.unusedVariables false
namespace Go.Proofs.YtnhbgjgfneoajaaDoor.Dg
open Go.RowKit
namespace D
/-- the first i bytes of a number of 64 bits, the greatest first -/
def be (m : Nat) : Nat → List UInt8
  | 0 => []
  | i + 1 => be m i ++ [UInt8.ofNat (m / 2 ^ (56 - 8 * i) % 256)]
theorem be_length (m i : Nat) : (be m i).length = i := by
  induction i with
  | zero => rfl
  | succ i ih => simp [be, ih]
/-- how many zeros stand behind l bytes -/
def gap (l : Nat) : Nat := (120 - l % 64) % 64
def ending (r : List UInt8) (m : Nat) : List UInt8 := r ++ [0x80] ++ List.replicate (gap (r.length + 1)) 0 ++ be m 8
theorem ending_length (r : List UInt8) (m : Nat) : (ending r m).length % 64 = 0 := by
  simp only [ending, List.length_append, be_length, List.length_replicate, List.length_cons, List.length_nil, gap]; omega
def byteOf (v : List U) (i : Nat) : UInt8 := UInt8.ofNat ((v.getD (i / 4) 0 >>> (24 - 8 * (i % 4))).toNat % 256)
def outs (v : List U) : Nat → List UInt8
  | 0 => List.replicate 32 0
  | i + 1 => (outs v i).set i (byteOf v i)
theorem outs_length (v : List U) (i : Nat) : (outs v i).length = 32 := by
  induction i with
  | zero => simp [outs]
  | succ i ih => simp [outs, ih]
/-- the sum behind a state, a rest and a length -/
def sum (st : List U) (r : List UInt8) (n : Nat) : List UInt8 := outs (absorb st (ending r (8 * n))).1 32
end D

theorem bs_set (l : List UInt8) (i : Nat) (c : UInt8) : (bs l).set i (.int .u8 (c.toNat : Int)) = bs (l.set i c) := by simp [bs, List.map_set]
theorem bs_get (l : List UInt8) (i : Nat) (h : i < l.length) : (bs l)[i]? = some (.int .u8 ((l.getD i 0).toNat : Int)) := by simp [bs, h]

theorem Own.form {B : Nat} {v : Value} {l : List UInt8} {w : World} (h : Own B v l w) : ∃ g cap, v = .slice (some ⟨g, 0, none⟩) l.length cap := by
  obtain ⟨g, cap, _, _, hv, _⟩ := h; exact ⟨g, cap, hv⟩
theorem below_text (w : World) (e : TypeId) (s : ByteArray) : Below w.heap.size w (Lib.bytesWorld w e s) :=
  ⟨rfl, rfl, rfl, by rw [Lib.bytesWorld_size]; omega, fun k hk => Lib.bytesWorld_at_old w e s k hk⟩
theorem be_byte (y : Nat) (x : Int) (h : x = ((y % 256 : Nat) : Int)) : x = ((UInt8.ofNat (y % 256)).toNat : Int) := by
  rw [h, UInt8.toNat_ofNat']; omega
theorem Own.keeps {B c g n cap : Nat} {l : List UInt8} {w w' : World} (h : Own B (.slice (some ⟨g, 0, none⟩) n cap) l w) (hk : Keeps c w w') (hne : g ≠ c) : Own B (.slice (some ⟨g, 0, none⟩) n cap) l w' := by
  obtain ⟨g', cap', cs, fz, hv, hg, hb, hf, r⟩ := h
  have hv' := hv
  injection hv with e1 e2 e3
  injection e1 with e1
  injection e1 with e1
  subst e1
  have hlt := (Array.getElem?_eq_some_iff.1 hb).1
  have hb' := (hk.block g hlt hne).trans hb
  exact ⟨g, cap', cs, fz, hv', hg, hb', fun j hj => by simpa [World.frozen?, hb, hb'] using hf j hj, r⟩
theorem Own.lt {B g n cap : Nat} {l : List UInt8} {w : World} (h : Own B (.slice (some ⟨g, 0, none⟩) n cap) l w) : g < w.heap.size ∧ l.length ≤ cap ∧ cap ≤ maxLen := by
  obtain ⟨g', cap', cs, fz, hv, hg, hb, hf, h1, h2, r⟩ := h
  injection hv with e1 e2 e3
  injection e1 with e1
  injection e1 with e1
  subst e1 e3
  exact ⟨(Array.getElem?_eq_some_iff.1 hb).1, h1, h2⟩
theorem own_text {B g n cap : Nat} {l : List UInt8} {w : World} (h : Own B (.slice (some ⟨g, 0, none⟩) n cap) l w) (q k c : Nat) (hq : q + k ≤ l.length) :
    (convert 66 9 (.slice (some ⟨g, q, none⟩) k c)).run Tryd.prog w = .ok (.string (S ((l.drop q).take k))) w := by
  have hl : ((l.drop q).take k).length = k := by rw [List.length_take, List.length_drop]; omega
  have e := run_convert_bytes_back (P := Tryd.prog) w 66 9 5 ⟨g, q, none⟩ c ((l.drop q).take k) Tryd.underlying66 Tryd.underlying5 Tryd.underlying9 (fun j hj => by
    rw [hl] at hj
    have e2 : (⟨g, q, none⟩ : Addr).add j = ⟨g, q + j, none⟩ := Addr.add_mid g q j
    rw [e2, h.cell (q + j) (.int .u8 ((l.getD (q + j) 0).toNat : Int)) (bs_get l _ (by omega))]
    congr 4
    rw [List.getElem_take, List.getElem_drop, List.getD_eq_getElem?_getD, List.getElem?_eq_getElem (by omega)]
    rfl)
  rw [hl] at e
  exact e
theorem byteOf_val (v : List U) (k : Nat) : ((D.byteOf v k).toNat : Int) = N (v.getD (k / 4) 0) / 2 ^ (24 - 8 * (k % 4)) % 256 := by
  unfold D.byteOf
  rw [wshr, UInt8.toNat_ofNat']
  unfold N
  omega
theorem out_step {O : Nat} {v : List U} {k : Nat} {T : TypeId} {w : World} (h : Blk O (bs (D.outs v k)) T w) (x : Int) (hx : x = N (v.getD (k / 4) 0) / 2 ^ (24 - 8 * (k % 4)) % 256) :
    Blk O (bs (D.outs v (k + 1))) T (w.setCell ⟨O, k, none⟩ (.int .u8 x)) := by
  rw [hx, ← byteOf_val]
  have e := h.set k (.int .u8 ((D.byteOf v k).toNat : Int))
  rw [bs_set] at e
  exact e
theorem bs_one (l : List UInt8) : (bs l).toArray.all (·.oneCell') = true := by simp [bs, Value.oneCell']
def sliceLen : Value → Nat
  | .slice _ n _ => n
  | _ => 0
theorem new_cell (w : World) (x y : Int) (t : TypeId) (h : x = y) : (w.alloc (.cells #[.int .u8 x] t)).cell? ⟨w.heap.size, 0, none⟩ = some (.int .u8 y) := by
  subst h
  rw [Lib.cell_of_heap (heap_alloc_new w _)]
  rfl

set_option maxRecDepth 100000 in
set_option maxHeartbeats 8000000 in
theorem sum_any (b : Nat) (st : List U) (r : List UInt8) (n : Nat) (w : World) (h : IsHash b st r n w) (hn : n ≤ 1000000000) (hr : r.length ≤ 100000000) :
    Calls Tryd.prog 47 #[.pointer (some ⟨b, 0, none⟩)] w fun e w' => e = .returned (.agg (bs (D.sum st r n)).toArray) ∧ Below w.heap.size w w' := by
  have H := Lib.hid h
  have hbl := h.2.lt
  clear h
  go_enter Tryd.func47, Tryd.ntmps47
  go_upto_region 1 with fail
  generalize hw1 : w.alloc _ = w1
  have hO : Blk w.heap.size (bs (List.replicate 32 0)) 59 w1 := by rw [← hw1]; exact Blk.new (bs (List.replicate 32 0)) _ w
  have hB : Below w.heap.size w w1 := by rw [← hw1]; exact (Below.refl _ w).alloc (Nat.le_refl _) _
  clear hw1
  have HO := Lib.hid hO
  have hos := hO.lt
  clear hO
  have c8 := (H.out.keep hB).cell8
  obtain ⟨x, hx⟩ : ∃ x, x = S r ++ ⟨#[128]⟩ := ⟨_, rfl⟩
  have hx2 : x = S (r ++ [0x80]) := by rw [hx, S_app]
  have hconv := Lib.run_convert_string_bytes (P := Tryd.prog) w1 9 66 5 x Tryd.underlying9 Tryd.underlying66 Tryd.underlying5
  rw [hx] at hconv
  go_upto_region 2 with fail
  have ho := own_of_text w1.heap.size w1 x (Nat.le_refl _) ⟨grownCap_le_maxLen _ _ _ _ (by rw [hx2, S_size]; unfold maxLen; simp; omega), grownCap_ge _ _ _ _⟩
  have hF := below_text w1 5 x
  rw [hx2, S_size, S_list] at ho
  simp only [List.length_append, List.length_cons, List.length_nil, Nat.zero_add] at ho
  rw [← hx2] at ho
  rw [← hx]
  generalize Lib.bytesWorld w1 5 x = w2 at ho hF
  generalize (Value.slice (some ⟨w1.heap.size, 0, none⟩) (r.length + 1) (grownCap w1 (r.length + 1) 0 5)) = v2 at ho
  clear hconv hx hx2 c8
  have hg := ho
  go_loopw [3] (fun v wr => ∃ k : Nat, k ≤ D.gap (r.length + 1) ∧ Own w1.heap.size v (r ++ [0x80] ++ List.replicate k 0) wr ∧ Below w1.heap.size w1 wr) (fun v _ => r.length + 100 - sliceLen v)
  case atStart => exact ⟨0, Nat.zero_le _, by simpa using ho, hF⟩
  case round =>
    clear ho hg hF
    obtain ⟨k, hk, ho, hF⟩ := hrel
    obtain ⟨g, cap, rfl⟩ := ho.form
    have hlen : (r ++ [0x80] ++ List.replicate k (0 : UInt8)).length = r.length + 1 + k := by simp; omega
    have hgap : D.gap (r.length + 1) ≤ 63 := by unfold D.gap; omega
    have hk2 : k ≤ 63 := by omega
    rw [hlen]
    rw [hlen] at ho
    generalize hm : r.length + 1 + k = m at ho
    have hF2 := hF.size
    by_cases hz : m % 64 = 56
    · have ht : (((m : Int) % 64) != 56) = false := by simp; omega
      have hkz : k = D.gap (r.length + 1) := by unfold D.gap at *; omega
      have Ho := Lib.hid ho
      clear ho
      go_upto_region 5 with fail
      have Ho0 : Own w1.heap.size (.slice (some ⟨g, 0, none⟩) m cap) (r ++ [0x80] ++ List.replicate (D.gap (r.length + 1)) 0 ++ D.be (8 * n) 0) wr := by
        rw [← hkz]; simpa [D.be] using Ho.out
      generalize hP : r ++ [0x80] ++ List.replicate (D.gap (r.length + 1)) (0 : UInt8) = P at Ho0
      have hPl : P.length = m := by rw [← hP, ← hkz]; omega
      have HP : ∀ _ : Unit, r ++ [0x80] ++ List.replicate (D.gap (r.length + 1)) (0 : UInt8) = P := fun _ => hP
      clear Ho hP
      go_loopw [3, 4, 22] (fun v _ i wr => ∃ k : Nat, i = .int .i64 (k : Int) ∧ k ≤ 8 ∧ Own w1.heap.size v (P ++ D.be (8 * n) k) wr ∧ Below w1.heap.size w1 wr) (fun _ _ i _ => 8 - (intOf i).toNat)
      case atStart => exact ⟨0, rfl, by omega, Ho0, hF⟩
      case round =>
        clear Ho0 hF hF2
        obtain ⟨k, rfl, hk, ho, hF⟩ := hrel
        obtain ⟨g2, cap2, rfl⟩ := ho.form
        have hlen2 : (P ++ D.be (8 * n) k).length = m + k := by rw [List.length_append, D.be_length, hPl]
        have hF2 := hF.size
        have hBw := hB.trans (hF.mono hB.size)
        have c9 := (H.out.keep hBw).cell9
        rw [hlen2] at ho ⊢
        have Ho := Lib.hid ho
        clear ho
        by_cases hlt : k < 8
        · have hm2 : m + k + 1 ≤ 200000000 := by omega
          have h8 : k = 0 ∨ k = 1 ∨ k = 2 ∨ k = 3 ∨ k = 4 ∨ k = 5 ∨ k = 6 ∨ k = 7 := by omega
          clear hB hz hgap hk2 hkz ht hos hBw hlen
          rcases h8 with rfl | rfl | rfl | rfl | rfl | rfl | rfl | rfl
          · go_wp2_with (at_builtin; refine own_append rfl (.tmp 25) (.tmp 36) rfl w1.heap.size _ rfl _ (UInt8.ofNat (8 * n / 2 ^ (56 - 8 * 0) % 256)) (Ho.out.alloc _) (Nat.le_trans hF2 (by simp)) ⟨wr.heap.size, 0, none⟩ rfl (new_cell _ _ _ _ (be_byte _ _ (by simp; try omega))) (by rw [hlen2]; omega) ?_)
            intro v' w' ho' hB'
            have hF3 := (hF.alloc hF2 _).trans hB'
            go_wp2_with fail
            go_roundw
            case rel => exact ⟨1, rfl, by omega, by simpa [D.be] using ho', hF3⟩
            case measure => simp [intOf]
          · go_wp2_with (at_builtin; refine own_append rfl (.tmp 25) (.tmp 36) rfl w1.heap.size _ rfl _ (UInt8.ofNat (8 * n / 2 ^ (56 - 8 * 1) % 256)) (Ho.out.alloc _) (Nat.le_trans hF2 (by simp)) ⟨wr.heap.size, 0, none⟩ rfl (new_cell _ _ _ _ (be_byte _ _ (by simp; try omega))) (by rw [hlen2]; omega) ?_)
            intro v' w' ho' hB'
            have hF3 := (hF.alloc hF2 _).trans hB'
            go_wp2_with fail
            go_roundw
            case rel => exact ⟨2, rfl, by omega, by simpa [D.be] using ho', hF3⟩
            case measure => simp [intOf]
          · go_wp2_with (at_builtin; refine own_append rfl (.tmp 25) (.tmp 36) rfl w1.heap.size _ rfl _ (UInt8.ofNat (8 * n / 2 ^ (56 - 8 * 2) % 256)) (Ho.out.alloc _) (Nat.le_trans hF2 (by simp)) ⟨wr.heap.size, 0, none⟩ rfl (new_cell _ _ _ _ (be_byte _ _ (by simp; try omega))) (by rw [hlen2]; omega) ?_)
            intro v' w' ho' hB'
            have hF3 := (hF.alloc hF2 _).trans hB'
            go_wp2_with fail
            go_roundw
            case rel => exact ⟨3, rfl, by omega, by simpa [D.be] using ho', hF3⟩
            case measure => simp [intOf]
          · go_wp2_with (at_builtin; refine own_append rfl (.tmp 25) (.tmp 36) rfl w1.heap.size _ rfl _ (UInt8.ofNat (8 * n / 2 ^ (56 - 8 * 3) % 256)) (Ho.out.alloc _) (Nat.le_trans hF2 (by simp)) ⟨wr.heap.size, 0, none⟩ rfl (new_cell _ _ _ _ (be_byte _ _ (by simp; try omega))) (by rw [hlen2]; omega) ?_)
            intro v' w' ho' hB'
            have hF3 := (hF.alloc hF2 _).trans hB'
            go_wp2_with fail
            go_roundw
            case rel => exact ⟨4, rfl, by omega, by simpa [D.be] using ho', hF3⟩
            case measure => simp [intOf]
          · go_wp2_with (at_builtin; refine own_append rfl (.tmp 25) (.tmp 36) rfl w1.heap.size _ rfl _ (UInt8.ofNat (8 * n / 2 ^ (56 - 8 * 4) % 256)) (Ho.out.alloc _) (Nat.le_trans hF2 (by simp)) ⟨wr.heap.size, 0, none⟩ rfl (new_cell _ _ _ _ (be_byte _ _ (by simp; try omega))) (by rw [hlen2]; omega) ?_)
            intro v' w' ho' hB'
            have hF3 := (hF.alloc hF2 _).trans hB'
            go_wp2_with fail
            go_roundw
            case rel => exact ⟨5, rfl, by omega, by simpa [D.be] using ho', hF3⟩
            case measure => simp [intOf]
          · go_wp2_with (at_builtin; refine own_append rfl (.tmp 25) (.tmp 36) rfl w1.heap.size _ rfl _ (UInt8.ofNat (8 * n / 2 ^ (56 - 8 * 5) % 256)) (Ho.out.alloc _) (Nat.le_trans hF2 (by simp)) ⟨wr.heap.size, 0, none⟩ rfl (new_cell _ _ _ _ (be_byte _ _ (by simp; try omega))) (by rw [hlen2]; omega) ?_)
            intro v' w' ho' hB'
            have hF3 := (hF.alloc hF2 _).trans hB'
            go_wp2_with fail
            go_roundw
            case rel => exact ⟨6, rfl, by omega, by simpa [D.be] using ho', hF3⟩
            case measure => simp [intOf]
          · go_wp2_with (at_builtin; refine own_append rfl (.tmp 25) (.tmp 36) rfl w1.heap.size _ rfl _ (UInt8.ofNat (8 * n / 2 ^ (56 - 8 * 6) % 256)) (Ho.out.alloc _) (Nat.le_trans hF2 (by simp)) ⟨wr.heap.size, 0, none⟩ rfl (new_cell _ _ _ _ (be_byte _ _ (by simp; try omega))) (by rw [hlen2]; omega) ?_)
            intro v' w' ho' hB'
            have hF3 := (hF.alloc hF2 _).trans hB'
            go_wp2_with fail
            go_roundw
            case rel => exact ⟨7, rfl, by omega, by simpa [D.be] using ho', hF3⟩
            case measure => simp [intOf]
          · go_wp2_with (at_builtin; refine own_append rfl (.tmp 25) (.tmp 36) rfl w1.heap.size _ rfl _ (UInt8.ofNat (8 * n / 2 ^ (56 - 8 * 7) % 256)) (Ho.out.alloc _) (Nat.le_trans hF2 (by simp)) ⟨wr.heap.size, 0, none⟩ rfl (new_cell _ _ _ _ (be_byte _ _ (by simp; try omega))) (by rw [hlen2]; omega) ?_)
            intro v' w' ho' hB'
            have hF3 := (hF.alloc hF2 _).trans hB'
            go_wp2_with fail
            go_roundw
            case rel => exact ⟨8, rfl, by omega, by simpa [D.be] using ho', hF3⟩
            case measure => simp [intOf]
        · obtain rfl : k = 8 := by omega
          obtain ⟨E, hE⟩ : ∃ E, P ++ D.be (8 * n) 8 = E := ⟨_, rfl⟩
          have HE : ∀ _ : Unit, D.ending r (8 * n) = E := fun _ => by rw [← hE, ← HP ()]; rfl
          have hEl : E.length = m + 8 := by rw [← hE]; exact hlen2
          have hE64 : (m + 8) % 64 = 0 := by omega
          rw [hE] at Ho
          clear hE hlen2 c9
          have hst8 := H.out.1
          obtain ⟨s0, s1, s2, s3, s4, s5, s6, s7, hst⟩ := eight st hst8
          have Hst : ∀ _ : Unit, st = [s0, s1, s2, s3, s4, s5, s6, s7] := fun _ => hst
          clear hst
          have hrange : wr.rangeAt b 0 [.int .u32 (N s0), .int .u32 (N s1), .int .u32 (N s2), .int .u32 (N s3), .int .u32 (N s4), .int .u32 (N s5), .int .u32 (N s6), .int .u32 (N s7)] := fun j v hv => by
            have hv : (ws st)[j]? = some v := by rw [Hst ()]; exact hv
            have hj : j < (ws st).length := (List.getElem?_eq_some_iff.1 hv).1
            rw [(H.out.keep hBw).2.cell, Nat.zero_add, List.getElem?_append_left hj]; exact hv
          go_upto_region 10 with (refine wpList_load_mid rfl 90 (.tmp 41) rfl b 0 rfl _ _ hrange Tryd.underlying90 rfl (by kernel_rfl) ?_)
          generalize hwv : wr.alloc _ = wv
          have hV : Blk wr.heap.size (ws (D.feed 0 st E).1) 90 wv := by
            show Blk wr.heap.size (ws st) _ wv
            rw [← hwv, Hst ()]; exact Blk.new _ _ wr
          have hgV := Ho.out.lt
          have hOv : Own w1.heap.size (.slice (some ⟨g2, 0, none⟩) (m + 8) cap2) E wv := by rw [← hwv]; exact Ho.out.alloc _
          have hFv : Below w1.heap.size w1 wv := by rw [← hwv]; exact hF.alloc hF2 _
          generalize wr.heap.size = V at hV hgV hF2
          obtain ⟨hgV, hcap, hcapm⟩ := hgV
          rw [hEl] at hcap
          unfold maxLen at hcapm
          clear hwv hrange Ho hBw hF
          go_wp2_with fail
          go_loopw [6] (fun i wr => ∃ q j : Nat, i = .int .i64 (q : Int) ∧ q = 64 * j ∧ q ≤ m + 8 ∧ Blk V (ws (D.feed j st E).1) 90 wr ∧ Own w1.heap.size (.slice (some ⟨g2, 0, none⟩) (m + 8) cap2) E wr ∧ Below w1.heap.size w1 wr) (fun i _ => m + 8 - (intOf i).toNat)
          case atStart => exact ⟨0, 0, rfl, rfl, by omega, hV, hOv, hFv⟩
          case round =>
            clear hV hOv hFv
            obtain ⟨q, j, rfl, hq, hqm, hV, hOv, hF⟩ := hrel
            by_cases hlt : q < m + 8
            · have hq64 : q + 64 ≤ m + 8 := by omega
              have hq1 : (q : Int) + 64 ≤ cap2 := by omega
              have hq2 : ¬ cap2 = q := by omega
              have hconv := own_text hOv q 64 (cap2 - q) (by omega)
              have Hq : ∀ _ : Unit, q = 64 * j := fun _ => hq
              have HV := Lib.hid hV
              have HO2 := Lib.hid hOv
              clear hq hV hOv
              go_wp2_with fail
              refine (add_any V (D.feed j st E).1 [] 90 (S ((E.drop q).take 64)) _ (by rw [S_size, List.length_take, List.length_drop]; omega) (D.feed_length _ _ _ hst8) (by simpa using HV.out)).mono ?_
              rintro e w3 ⟨rfl, hV3, hk3⟩
              have hV4 : Blk V (ws (D.feed (j + 1) st E).1) 90 w3 := by
                rw [S_list, List.append_nil, Hq ()] at hV3
                have e : (D.feed (j + 1) st E).1 = D.comp (D.feed j st E).1 ((E.drop (64 * j)).take 64) := by rw [← D.feed_rest j st E]; rfl
                rw [e]; exact hV3
              have hOv4 := HO2.out.keeps hk3 (by omega)
              have hF4 := hF.trans (hk3.below (B := w1.heap.size) hF2 HV.out.lt)
              clear hV3 hconv hk3
              go_wp2_with fail
              go_roundw
              case rel => exact ⟨q + 64, j + 1, by go_num, by have := Hq (); omega, by omega, hV4, hOv4, hF4⟩
              case measure => simp [intOf]; omega
            · have hq2 : q = m + 8 := by omega
              obtain ⟨v8, hv8⟩ : ∃ v8, v8 = (D.feed j st E).1 := ⟨_, rfl⟩
              rw [← hv8] at hV
              have hv8l : v8.length = 8 := by rw [hv8]; exact D.feed_length _ _ _ hst8
              have Hv : ∀ _ : Unit, v8 = (D.absorb st (D.ending r (8 * n))).1 := fun _ => by
                rw [hv8, HE ()]; unfold D.absorb; rw [hEl, show (m + 8) / 64 = j by omega]
              subst hq2
              clear hv8 hOv hqm hlt hcap hcapm hq
              go_upto_region 15 with fail
              generalize hwv : wr.alloc _ = wv
              have hO2 : Blk wr.heap.size (bs (D.outs v8 0)) 59 wv := by rw [← hwv]; exact Blk.new (bs (List.replicate 32 0)) _ wr
              have hV2 : Blk V (ws v8) 90 wv := by rw [← hwv]; exact hV.alloc _
              have hF5 : Below w1.heap.size w1 wv := by rw [← hwv]; exact hF.alloc hF.size _
              have hO2s := hF.size
              have hVO := hV.lt
              clear hwv hV hF
              generalize wr.heap.size = O2 at hO2 hO2s hVO
              obtain ⟨a0, a1, a2, a3, a4, a5, a6, a7, hv⟩ := eight v8 hv8l
              subst hv
              clear hv8l
              go_wp2_with fail
              go_loopw [8, 56] (fun _ i wr => ∃ k : Nat, i = .int .i64 (k : Int) ∧ k ≤ 32 ∧ Blk O2 (bs (D.outs [a0, a1, a2, a3, a4, a5, a6, a7] k)) 59 wr ∧ Blk V (ws [a0, a1, a2, a3, a4, a5, a6, a7]) 90 wr ∧ Below w1.heap.size w1 wr) (fun _ i _ => 32 - (intOf i).toNat)
              case atStart => exact ⟨0, rfl, by omega, hO2, hV2, hF5⟩
              case round =>
                clear hO2 hV2 hF5
                obtain ⟨k, rfl, hk, hO2, hV, hF⟩ := hrel
                by_cases hlt : k < 32
                · have c0 : wr.cell? ⟨V, 0, none⟩ = some (.int .u32 (N a0)) := hV.cell 0
                  have c1 : wr.cell? ⟨V, 1, none⟩ = some (.int .u32 (N a1)) := hV.cell 1
                  have c2 : wr.cell? ⟨V, 2, none⟩ = some (.int .u32 (N a2)) := hV.cell 2
                  have c3 : wr.cell? ⟨V, 3, none⟩ = some (.int .u32 (N a3)) := hV.cell 3
                  have c4 : wr.cell? ⟨V, 4, none⟩ = some (.int .u32 (N a4)) := hV.cell 4
                  have c5 : wr.cell? ⟨V, 5, none⟩ = some (.int .u32 (N a5)) := hV.cell 5
                  have c6 : wr.cell? ⟨V, 6, none⟩ = some (.int .u32 (N a6)) := hV.cell 6
                  have c7 : wr.cell? ⟨V, 7, none⟩ = some (.int .u32 (N a7)) := hV.cell 7
                  have co : wr.cell? ⟨O2, k, none⟩ = some (.int .u8 (((D.outs [a0, a1, a2, a3, a4, a5, a6, a7] k).getD k 0).toNat : Int)) := by
                    rw [hO2.cell, bs_get _ _ (by rw [D.outs_length]; exact hlt)]
                  have hfree := hO2.free k
                  generalize ((D.outs [a0, a1, a2, a3, a4, a5, a6, a7] k).getD k 0).toNat = old at co
                  have HO2 := Lib.hid hO2
                  have HV := Lib.hid hV
                  clear hO2 hV
                  have h32 : k = 0 ∨ k = 1 ∨ k = 2 ∨ k = 3 ∨ k = 4 ∨ k = 5 ∨ k = 6 ∨ k = 7 ∨ k = 8 ∨ k = 9 ∨ k = 10 ∨ k = 11 ∨ k = 12 ∨ k = 13 ∨ k = 14 ∨ k = 15 ∨ k = 16 ∨ k = 17 ∨ k = 18 ∨ k = 19 ∨ k = 20 ∨ k = 21 ∨ k = 22 ∨ k = 23 ∨ k = 24 ∨ k = 25 ∨ k = 26 ∨ k = 27 ∨ k = 28 ∨ k = 29 ∨ k = 30 ∨ k = 31 := by omega
                  clear hz hgap hk2 hkz ht hlen
                  rcases h32 with rfl | rfl | rfl | rfl | rfl | rfl | rfl | rfl | rfl | rfl | rfl | rfl | rfl | rfl | rfl | rfl | rfl | rfl | rfl | rfl | rfl | rfl | rfl | rfl | rfl | rfl | rfl | rfl | rfl | rfl | rfl | rfl
                  · go_wp2_with fail
                    go_roundw
                    case rel => exact ⟨1, rfl, by omega, out_step (k := 0) HO2.out _ (by simp), HV.out.other _ _ (by omega), hF.setCell (p := ⟨O2, 0, none⟩) (by omega) _⟩
                    case measure => simp [intOf]
                  · go_wp2_with fail
                    go_roundw
                    case rel => exact ⟨2, rfl, by omega, out_step (k := 1) HO2.out _ (by simp), HV.out.other _ _ (by omega), hF.setCell (p := ⟨O2, 1, none⟩) (by omega) _⟩
                    case measure => simp [intOf]
                  · go_wp2_with fail
                    go_roundw
                    case rel => exact ⟨3, rfl, by omega, out_step (k := 2) HO2.out _ (by simp), HV.out.other _ _ (by omega), hF.setCell (p := ⟨O2, 2, none⟩) (by omega) _⟩
                    case measure => simp [intOf]
                  · go_wp2_with fail
                    go_roundw
                    case rel => exact ⟨4, rfl, by omega, out_step (k := 3) HO2.out _ (by simp), HV.out.other _ _ (by omega), hF.setCell (p := ⟨O2, 3, none⟩) (by omega) _⟩
                    case measure => simp [intOf]
                  · go_wp2_with fail
                    go_roundw
                    case rel => exact ⟨5, rfl, by omega, out_step (k := 4) HO2.out _ (by simp), HV.out.other _ _ (by omega), hF.setCell (p := ⟨O2, 4, none⟩) (by omega) _⟩
                    case measure => simp [intOf]
                  · go_wp2_with fail
                    go_roundw
                    case rel => exact ⟨6, rfl, by omega, out_step (k := 5) HO2.out _ (by simp), HV.out.other _ _ (by omega), hF.setCell (p := ⟨O2, 5, none⟩) (by omega) _⟩
                    case measure => simp [intOf]
                  · go_wp2_with fail
                    go_roundw
                    case rel => exact ⟨7, rfl, by omega, out_step (k := 6) HO2.out _ (by simp), HV.out.other _ _ (by omega), hF.setCell (p := ⟨O2, 6, none⟩) (by omega) _⟩
                    case measure => simp [intOf]
                  · go_wp2_with fail
                    go_roundw
                    case rel => exact ⟨8, rfl, by omega, out_step (k := 7) HO2.out _ (by simp), HV.out.other _ _ (by omega), hF.setCell (p := ⟨O2, 7, none⟩) (by omega) _⟩
                    case measure => simp [intOf]
                  · go_wp2_with fail
                    go_roundw
                    case rel => exact ⟨9, rfl, by omega, out_step (k := 8) HO2.out _ (by simp), HV.out.other _ _ (by omega), hF.setCell (p := ⟨O2, 8, none⟩) (by omega) _⟩
                    case measure => simp [intOf]
                  · go_wp2_with fail
                    go_roundw
                    case rel => exact ⟨10, rfl, by omega, out_step (k := 9) HO2.out _ (by simp), HV.out.other _ _ (by omega), hF.setCell (p := ⟨O2, 9, none⟩) (by omega) _⟩
                    case measure => simp [intOf]
                  · go_wp2_with fail
                    go_roundw
                    case rel => exact ⟨11, rfl, by omega, out_step (k := 10) HO2.out _ (by simp), HV.out.other _ _ (by omega), hF.setCell (p := ⟨O2, 10, none⟩) (by omega) _⟩
                    case measure => simp [intOf]
                  · go_wp2_with fail
                    go_roundw
                    case rel => exact ⟨12, rfl, by omega, out_step (k := 11) HO2.out _ (by simp), HV.out.other _ _ (by omega), hF.setCell (p := ⟨O2, 11, none⟩) (by omega) _⟩
                    case measure => simp [intOf]
                  · go_wp2_with fail
                    go_roundw
                    case rel => exact ⟨13, rfl, by omega, out_step (k := 12) HO2.out _ (by simp), HV.out.other _ _ (by omega), hF.setCell (p := ⟨O2, 12, none⟩) (by omega) _⟩
                    case measure => simp [intOf]
                  · go_wp2_with fail
                    go_roundw
                    case rel => exact ⟨14, rfl, by omega, out_step (k := 13) HO2.out _ (by simp), HV.out.other _ _ (by omega), hF.setCell (p := ⟨O2, 13, none⟩) (by omega) _⟩
                    case measure => simp [intOf]
                  · go_wp2_with fail
                    go_roundw
                    case rel => exact ⟨15, rfl, by omega, out_step (k := 14) HO2.out _ (by simp), HV.out.other _ _ (by omega), hF.setCell (p := ⟨O2, 14, none⟩) (by omega) _⟩
                    case measure => simp [intOf]
                  · go_wp2_with fail
                    go_roundw
                    case rel => exact ⟨16, rfl, by omega, out_step (k := 15) HO2.out _ (by simp), HV.out.other _ _ (by omega), hF.setCell (p := ⟨O2, 15, none⟩) (by omega) _⟩
                    case measure => simp [intOf]
                  · go_wp2_with fail
                    go_roundw
                    case rel => exact ⟨17, rfl, by omega, out_step (k := 16) HO2.out _ (by simp), HV.out.other _ _ (by omega), hF.setCell (p := ⟨O2, 16, none⟩) (by omega) _⟩
                    case measure => simp [intOf]
                  · go_wp2_with fail
                    go_roundw
                    case rel => exact ⟨18, rfl, by omega, out_step (k := 17) HO2.out _ (by simp), HV.out.other _ _ (by omega), hF.setCell (p := ⟨O2, 17, none⟩) (by omega) _⟩
                    case measure => simp [intOf]
                  · go_wp2_with fail
                    go_roundw
                    case rel => exact ⟨19, rfl, by omega, out_step (k := 18) HO2.out _ (by simp), HV.out.other _ _ (by omega), hF.setCell (p := ⟨O2, 18, none⟩) (by omega) _⟩
                    case measure => simp [intOf]
                  · go_wp2_with fail
                    go_roundw
                    case rel => exact ⟨20, rfl, by omega, out_step (k := 19) HO2.out _ (by simp), HV.out.other _ _ (by omega), hF.setCell (p := ⟨O2, 19, none⟩) (by omega) _⟩
                    case measure => simp [intOf]
                  · go_wp2_with fail
                    go_roundw
                    case rel => exact ⟨21, rfl, by omega, out_step (k := 20) HO2.out _ (by simp), HV.out.other _ _ (by omega), hF.setCell (p := ⟨O2, 20, none⟩) (by omega) _⟩
                    case measure => simp [intOf]
                  · go_wp2_with fail
                    go_roundw
                    case rel => exact ⟨22, rfl, by omega, out_step (k := 21) HO2.out _ (by simp), HV.out.other _ _ (by omega), hF.setCell (p := ⟨O2, 21, none⟩) (by omega) _⟩
                    case measure => simp [intOf]
                  · go_wp2_with fail
                    go_roundw
                    case rel => exact ⟨23, rfl, by omega, out_step (k := 22) HO2.out _ (by simp), HV.out.other _ _ (by omega), hF.setCell (p := ⟨O2, 22, none⟩) (by omega) _⟩
                    case measure => simp [intOf]
                  · go_wp2_with fail
                    go_roundw
                    case rel => exact ⟨24, rfl, by omega, out_step (k := 23) HO2.out _ (by simp), HV.out.other _ _ (by omega), hF.setCell (p := ⟨O2, 23, none⟩) (by omega) _⟩
                    case measure => simp [intOf]
                  · go_wp2_with fail
                    go_roundw
                    case rel => exact ⟨25, rfl, by omega, out_step (k := 24) HO2.out _ (by simp), HV.out.other _ _ (by omega), hF.setCell (p := ⟨O2, 24, none⟩) (by omega) _⟩
                    case measure => simp [intOf]
                  · go_wp2_with fail
                    go_roundw
                    case rel => exact ⟨26, rfl, by omega, out_step (k := 25) HO2.out _ (by simp), HV.out.other _ _ (by omega), hF.setCell (p := ⟨O2, 25, none⟩) (by omega) _⟩
                    case measure => simp [intOf]
                  · go_wp2_with fail
                    go_roundw
                    case rel => exact ⟨27, rfl, by omega, out_step (k := 26) HO2.out _ (by simp), HV.out.other _ _ (by omega), hF.setCell (p := ⟨O2, 26, none⟩) (by omega) _⟩
                    case measure => simp [intOf]
                  · go_wp2_with fail
                    go_roundw
                    case rel => exact ⟨28, rfl, by omega, out_step (k := 27) HO2.out _ (by simp), HV.out.other _ _ (by omega), hF.setCell (p := ⟨O2, 27, none⟩) (by omega) _⟩
                    case measure => simp [intOf]
                  · go_wp2_with fail
                    go_roundw
                    case rel => exact ⟨29, rfl, by omega, out_step (k := 28) HO2.out _ (by simp), HV.out.other _ _ (by omega), hF.setCell (p := ⟨O2, 28, none⟩) (by omega) _⟩
                    case measure => simp [intOf]
                  · go_wp2_with fail
                    go_roundw
                    case rel => exact ⟨30, rfl, by omega, out_step (k := 29) HO2.out _ (by simp), HV.out.other _ _ (by omega), hF.setCell (p := ⟨O2, 29, none⟩) (by omega) _⟩
                    case measure => simp [intOf]
                  · go_wp2_with fail
                    go_roundw
                    case rel => exact ⟨31, rfl, by omega, out_step (k := 30) HO2.out _ (by simp), HV.out.other _ _ (by omega), hF.setCell (p := ⟨O2, 30, none⟩) (by omega) _⟩
                    case measure => simp [intOf]
                  · go_wp2_with fail
                    go_roundw
                    case rel => exact ⟨32, rfl, by omega, out_step (k := 31) HO2.out _ (by simp), HV.out.other _ _ (by omega), hF.setCell (p := ⟨O2, 31, none⟩) (by omega) _⟩
                    case measure => simp [intOf]
                · obtain rfl : k = 32 := by omega
                  have hOb := HO.out.keep hF
                  have hs32 : ∀ l : List UInt8, l.length = 32 → (bs l).toArray.size = 32 := fun l h => by simp [bs, h]
                  have hfin : D.sum st r n = D.outs [a0, a1, a2, a3, a4, a5, a6, a7] 32 := by unfold D.sum; rw [Hv ()]
                  have hol := D.outs_length [a0, a1, a2, a3, a4, a5, a6, a7] 32
                  have Hfin : ∀ _ : Unit, D.sum st r n = D.outs [a0, a1, a2, a3, a4, a5, a6, a7] 32 := fun _ => hfin
                  clear hfin
                  obtain ⟨out, hout⟩ : ∃ out, D.outs [a0, a1, a2, a3, a4, a5, a6, a7] 32 = out := ⟨_, rfl⟩
                  rw [hout] at hO2 hol
                  have Hout : ∀ _ : Unit, D.outs [a0, a1, a2, a3, a4, a5, a6, a7] 32 = out := fun _ => hout
                  clear hout
                  go_wp2_with (first
                    | refine wpList_load_row rfl 59 (.tmp 7) rfl O2 rfl 59 (bs out).toArray (0, 0) _ hO2 Tryd.underlying59 rfl (by rw [hs32 out hol]; kernel_rfl) ?_
                    | refine wpList_store_row rfl 59 (.tmp 2) (.tmp 72) rfl w.heap.size (bs out).toArray rfl rfl 59 _ hOb (by rw [hs32 out hol]; kernel_rfl) (by rw [hs32 out hol, hs32 _ (by simp)]) (bs_one out) ?_)
                  exact bodyPost_ret (results_cell_row rfl _ _ w.heap.size 59 (bs out).toArray (0, 0) _ rfl (setRow_heap _ _ _ _ _ _ hOb) Tryd.underlying59 rfl (by rw [hs32 out hol]; kernel_rfl)) rfl ⟨by rw [Hfin (), Hout ()], Below.setRow _ (hB.trans (hF.mono hB.size)) (Nat.le_refl _)⟩
    · have ht : (((m : Int) % 64) != 56) = true := by simp; omega
      have hkz : k < D.gap (r.length + 1) := by unfold D.gap at *; omega
      have Ho := Lib.hid ho
      clear ho
      go_wp2_with (at_builtin; refine own_append rfl (.tmp 19) (.tmp 20) rfl w1.heap.size _ rfl _ 0 (Ho.out.alloc _) (Nat.le_trans hF2 (by simp)) ⟨wr.heap.size, 0, none⟩ rfl (new_cell _ _ _ _ rfl) (by rw [hlen]; omega) ?_)
      intro v' w' ho' hB'
      have hF3 := (hF.alloc hF2 (.cells #[.int .u8 0] 5)).trans hB'
      go_wp2_with fail
      have hlen' : (r ++ 0x80 :: (List.replicate k (0 : UInt8) ++ [0])).length = m + 1 := by simp; omega
      go_roundw
      case rel => exact ⟨k + 1, hkz, by rw [show r ++ [0x80] ++ List.replicate (k + 1) (0 : UInt8) = r ++ 0x80 :: (List.replicate k 0 ++ [0]) by simp [List.replicate_succ']]; exact ho', hF3⟩
      case measure =>
        obtain ⟨g', cap', rfl⟩ := ho'.form
        rw [hlen']
        show r.length + 100 - (m + 1) < r.length + 100 - m
        omega

end Go.Proofs.YtnhbgjgfneoajaaDoor.Dg
