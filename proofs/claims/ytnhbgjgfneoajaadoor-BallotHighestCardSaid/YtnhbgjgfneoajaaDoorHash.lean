/-
  The Hash: what stands in its block, and what New and Write do.
-/
import Derived.Test.YtnhbgjgfneoajaaDoorComp
set_option linter.unusedVariables false
namespace Go.Proofs.YtnhbgjgfneoajaaDoor.Dg
open Go.RowKit
namespace D
/-- n blocks from the head of a text -/
def feed : Nat → List U → List UInt8 → List U × List UInt8
  | 0, st, r => (st, r)
  | n + 1, st, r => (comp (feed n st r).1 ((feed n st r).2.take 64), (feed n st r).2.drop 64)
/-- all whole blocks of a text -/
def absorb (st : List U) (r : List UInt8) : List U × List UInt8 := feed (r.length / 64) st r

theorem comp_length (st : List U) (b : List UInt8) (h : st.length = 8) : (comp st b).length = 8 := sums_length _ _ h _
theorem feed_length (n : Nat) (st : List U) (r : List UInt8) (h : st.length = 8) : (feed n st r).1.length = 8 := by
  induction n with
  | zero => exact h
  | succ n ih => exact comp_length _ _ ih
theorem feed_rest (n : Nat) (st : List U) (r : List UInt8) : (feed n st r).2 = r.drop (64 * n) := by
  induction n with
  | zero => simp [feed]
  | succ n ih => simp only [feed, ih, List.drop_drop]; congr 1
theorem feed_add (n m : Nat) (st : List U) (r : List UInt8) : feed (n + m) st r = feed m (feed n st r).1 (feed n st r).2 := by
  induction m with
  | zero => rfl
  | succ m ih => rw [← Nat.add_assoc]; simp only [feed, ih]
theorem feed_append (n : Nat) (st : List U) (r p : List UInt8) (h : 64 * n ≤ r.length) : feed n st (r ++ p) = ((feed n st r).1, (feed n st r).2 ++ p) := by
  induction n with
  | zero => rfl
  | succ n ih =>
    have h1 : 64 ≤ (feed n st r).2.length := by rw [feed_rest, List.length_drop]; omega
    simp only [feed, ih (by omega), List.take_append_of_le_length h1, List.drop_append_of_le_length h1]
theorem absorb_append (st : List U) (a p : List UInt8) : absorb (absorb st a).1 ((absorb st a).2 ++ p) = absorb st (a ++ p) := by
  unfold absorb
  have h1 : 64 * (a.length / 64) ≤ a.length := by omega
  have h2 : ((feed (a.length / 64) st a).2 ++ p).length = a.length - 64 * (a.length / 64) + p.length := by rw [List.length_append, feed_rest, List.length_drop]
  rw [h2]
  have h3 : (a ++ p).length / 64 = a.length / 64 + (a.length - 64 * (a.length / 64) + p.length) / 64 := by rw [List.length_append]; omega
  rw [h3, feed_add, feed_append _ _ _ _ h1]
end D

abbrev S (l : List UInt8) : ByteArray := ⟨l.toArray⟩
theorem S_size (l : List UInt8) : (S l).size = l.length := by simp [ByteArray.size]
theorem S_list (l : List UInt8) : (S l).data.toList = l := by simp

theorem S_app (l : List UInt8) (s : ByteArray) : S l ++ s = S (l ++ s.data.toList) := by
  apply ByteArray.ext
  apply Array.ext'
  simp [S]
theorem take_S (l : List UInt8) (x : ByteArray) (h : x = S l) (k : Nat) : (x.extract 0 k).data.toList = l.take k := by
  subst h; simp [ByteArray.data_extract]
theorem drop_S (l : List UInt8) (x : ByteArray) (h : x = S l) (k : Nat) : x.extract k x.size = S (l.drop k) := by
  subst h
  apply ByteArray.ext
  apply Array.ext'
  simp [ByteArray.data_extract, ByteArray.size, List.take_of_length_le]
theorem bytes_size_take (x : ByteArray) (k : Nat) (h : k ≤ x.size) : (x.extract 0 k).size = k := by
  simp [ByteArray.size_extract]; omega

/-- how long the text in cell 8 of a block is -/
def restLen (b : Nat) (w : World) : Nat := match w.cell? ⟨b, 8, none⟩ with | some (.string s) => s.size | _ => 0

/-- a Hash in block b: the state, what is left, the length -/
def IsHash (b : Nat) (st : List U) (r : List UInt8) (n : Nat) (w : World) : Prop := st.length = 8 ∧ Blk b (ws st ++ [.string (S r), .int .u64 (n : Int)]) 93 w

theorem IsHash.keep {b : Nat} {st : List U} {r : List UInt8} {n : Nat} {w w' : World} (h : IsHash b st r n w) (hB : Below w.heap.size w w') : IsHash b st r n w' := ⟨h.1, h.2.keep hB⟩
theorem IsHash.keeps {b c : Nat} {st : List U} {r : List UInt8} {n : Nat} {w w' : World} (h : IsHash b st r n w) (hB : Keeps c w w') (hne : b ≠ c) : IsHash b st r n w' := ⟨h.1, h.2.keeps hB hne⟩
theorem IsHash.cell8 {b : Nat} {st : List U} {r : List UInt8} {n : Nat} {w : World} (h : IsHash b st r n w) : w.cell? ⟨b, 8, none⟩ = some (.string (S r)) := by
  rw [h.2.cell, List.getElem?_append_right (by rw [ws_length, h.1]; omega), ws_length, h.1]; rfl
theorem IsHash.cell9 {b : Nat} {st : List U} {r : List UInt8} {n : Nat} {w : World} (h : IsHash b st r n w) : w.cell? ⟨b, 9, none⟩ = some (.int .u64 (n : Int)) := by
  rw [h.2.cell, List.getElem?_append_right (by rw [ws_length, h.1]; omega), ws_length, h.1]; rfl
theorem IsHash.set8 {b : Nat} {st : List U} {r : List UInt8} {n : Nat} {w : World} (h : IsHash b st r n w) (r' : List UInt8) : IsHash b st r' n (w.setCell ⟨b, 8, none⟩ (.string (S r'))) := by
  refine ⟨h.1, ?_⟩
  have e := h.2.set 8 (.string (S r'))
  rw [List.set_append_right _ _ (by rw [ws_length, h.1]; omega), ws_length, h.1] at e
  exact e
theorem IsHash.set9 {b : Nat} {st : List U} {r : List UInt8} {n : Nat} {w : World} (h : IsHash b st r n w) (n' : Nat) : IsHash b st r n' (w.setCell ⟨b, 9, none⟩ (.int .u64 (n' : Int))) := by
  refine ⟨h.1, ?_⟩
  have e := h.2.set 9 (.int .u64 (n' : Int))
  rw [List.set_append_right _ _ (by rw [ws_length, h.1]; omega), ws_length, h.1] at e
  exact e
theorem IsHash.drew {b : Nat} {st : List U} {r : List UInt8} {n : Nat} {w : World} (h : IsHash b st r n w) : IsHash b st r n w.drew := h

set_option maxRecDepth 100000 in
set_option maxHeartbeats 1000000 in
theorem new_any (w : World) : Calls Tryd.prog 45 #[] w fun e w' => ∃ b, e = .returned (.pointer (some ⟨b, 0, none⟩)) ∧ w.heap.size ≤ b ∧ IsHash b D.H0 [] 0 w' ∧ Below w.heap.size w w' := by
  go_enter Tryd.func45, Tryd.ntmps45
  go_wp2_with fail
  refine (start_any w).mono ?_
  rintro e w1 ⟨rfl, hB⟩
  rw [ws_H0]
  go_wp2_with fail
  go_ret
  exact ⟨w1.heap.size, rfl, hB.size, ⟨rfl, Blk.new (ws D.H0 ++ [.string (S []), .int .u64 0]) _ w1⟩, hB.alloc hB.size _⟩

set_option maxRecDepth 100000 in
set_option maxHeartbeats 1000000 in
theorem write_any (b : Nat) (st : List U) (r : List UInt8) (n : Nat) (s : ByteArray) (w : World) (h : IsHash b st r n w) (hn : n + s.size ≤ 1000000000) (hr : r.length ≤ 1000000000) :
    Calls Tryd.prog 46 #[.pointer (some ⟨b, 0, none⟩), .string s] w fun e w' => e = .returned (.tuple #[]) ∧
      IsHash b (D.absorb st (r ++ s.data.toList)).1 (D.absorb st (r ++ s.data.toList)).2 (n + s.size) w' ∧ Keeps b w w' := by
  have c8 := h.cell8
  have c9 := h.cell9
  have f8 := h.2.free 8
  have f9 := h.2.free 9
  have H := Lib.hid h; clear h
  go_enter Tryd.func46, Tryd.ntmps46
  go_upto_region 2 with fail
  rw [S_app]
  obtain ⟨R, hR⟩ : ∃ R, r ++ s.data.toList = R := ⟨_, rfl⟩
  obtain ⟨N1, hN⟩ : ∃ N1, n + s.size = N1 := ⟨_, rfl⟩
  have hN2 : (n : Int) + (s.size : Int) = (N1 : Int) := by omega
  have hRl : R.length ≤ 2000000000 := by
    have h1 : (r ++ s.data.toList).length = r.length + s.data.toList.length := List.length_append
    have h2 : s.data.toList.length = s.size := Array.length_toList
    rw [← hR, h1, h2]; omega
  have hw1 := (H.out.set9 N1).set8 R
  have hk1 := (Keeps.set b w 9 (.int .u64 (N1 : Int))).trans (Keeps.set b (w.setCell ⟨b, 9, none⟩ (.int .u64 (N1 : Int))) 8 (.string (S R)))
  rw [hR, hN2]
  have HR : ∀ _ : Unit, r ++ s.data.toList = R := fun _ => hR
  generalize (w.setCell _ _).setCell _ _ = w1 at hw1 hk1
  clear c8 c9 f8 f9 H hR hN2
  go_loopw [] (fun wr => ∃ j : Nat, 64 * j ≤ R.length ∧ IsHash b (D.feed j st R).1 (D.feed j st R).2 N1 wr ∧ Keeps b w wr) (fun wr => restLen b wr)
  case atStart => exact ⟨0, by omega, hw1, hk1⟩
  case round =>
    clear hw1 hk1
    obtain ⟨j, hj, hH, hk⟩ := hrel
    have c8 := hH.cell8
    obtain ⟨x, hx⟩ : ∃ x, x = S (D.feed j st R).2 := ⟨_, rfl⟩
    rw [← hx] at c8
    have hxs : x.size = R.length - 64 * j := by rw [hx, S_size, D.feed_rest, List.length_drop]
    have HX : ∀ _ : Unit, x = S (D.feed j st R).2 := fun _ => hx
    have HH := Lib.hid hH
    have Hxs : ∀ _ : Unit, x.size = R.length - 64 * j := fun _ => hxs
    have hxb : x.size ≤ 2000000000 := by omega
    have c8' := c8
    have C8 := Lib.hid c8'
    clear hx hH c8'
    by_cases hlt : 64 * (j + 1) ≤ R.length
    · have h64 : 64 ≤ x.size := by omega
      have h64' : (64 : Int) ≤ x.size := by omega
      clear hxs
      go_upto_region 3 with fail
      refine region_tail 8 (by kernel_rfl) (by kernel_rfl) ?_
      simp only [List.take_succ_cons, List.take_zero, List.drop_succ_cons, List.drop_zero]
      repeat (first | go_big_quiet_skip | (go_big_quiet_want; go_big_quiet_op; first | go_big_quiet_on | (apply Exists.intro; refine And.intro ?_ ?_; (focus (fail)); go_big_quiet_on)))
      refine wpQuiet_nil ?_
      go_wp2_with fail
      refine (add_any b _ _ _ (x.extract 0 64) _ (bytes_size_take x 64 h64) HH.out.1 HH.out.2.drew).mono ?_
      rintro e w2 ⟨rfl, hb2, hk2⟩
      have hH2 : IsHash b (D.feed (j + 1) st R).1 (D.feed j st R).2 N1 w2 := by
        rw [take_S _ x (HX ()) 64] at hb2
        exact ⟨D.comp_length _ _ HH.out.1, hb2⟩
      clear hb2
      have d8 := hH2.cell8
      rw [← HX ()] at d8
      have f8 := hH2.2.free 8
      have HH2 := Lib.hid hH2
      clear hH2
      go_wp2_with fail
      have hres : restLen b (w2.setCell ⟨b, 8, none⟩ (.string (x.extract 64 x.size))) < restLen b wr := by
        have e1 := (HH2.out.set8 ((D.feed j st R).2.drop 64)).cell8
        rw [← drop_S _ x (HX ()) 64] at e1
        unfold restLen
        rw [e1, C8.out]
        simp only [ByteArray.size_extract]
        omega
      go_roundw
      case rel =>
        refine ⟨j + 1, hlt, ?_, (hk.trans hk2.drew).trans (Keeps.set b w2 8 _)⟩
        rw [drop_S _ x (HX ()) 64]
        exact HH2.out.set8 _
      case measure => exact hres
    · have h64' : (x.size : Int) < 64 := by omega
      clear hxs
      go_wp2_with fail
      go_end0
      refine ⟨rfl, ?_, hk⟩
      rw [HR (), hN]
      unfold D.absorb
      rw [show R.length / 64 = j by omega]
      exact HH.out

end Go.Proofs.YtnhbgjgfneoajaaDoor.Dg
