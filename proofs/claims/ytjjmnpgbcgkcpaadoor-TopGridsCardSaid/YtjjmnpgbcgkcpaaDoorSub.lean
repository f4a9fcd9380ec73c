/-
  The subsets of a set, in order: an iterator.
-/
import Derived.RangeFuncNested
import Derived.RangeFuncBound
import Derived.RangeFuncCalls
import Derived.RangeFuncLeaves
import Derived.RangeFuncBox
import Derived.Shelf.Abstract
import Derived.Shelf.RegionOpen
import Derived.OwnWalkIn
import Derived.TacticsInMore
import Derived.LoopNIn
import Derived.LoopIn
import Derived.Maps.AppendAt
import Derived.Sort.CutIn
import Derived.Test.YtjjmnpgbcgkcpaaDoorVec
set_option linter.unusedVariables false
namespace Go.Proofs.YtjjmnpgbcgkcpaaDoor
open Go.RowKit Go.Shelf
attribute [local go_sem] Oper.semAt_some

abbrev U := BitVec 32
def N (a : U) : Int := (a.toNat : Int)

namespace T
/-- the members that the ones of n stand for -/
def pickF : Nat → List Int → U → V → V
  | _, [], _, acc => acc
  | i, x :: xs, n, acc => pickF (i + 1) xs n (if (n >>> i) &&& 1#32 = 1#32 then acc ||| (1#16 <<< x.toNat) else acc)
def pick (l : List Int) (n : U) : V := pickF 0 l n 0#16
def next (n : U) : U := (n + (n &&& -n)) ||| (((n ^^^ (n + (n &&& -n))) / (n &&& -n)) >>> 2)
def nums : Nat → U → U → List U
  | 0, _, _ => []
  | f + 1, lim, n => if n < lim then n :: (if n = 0#32 then [] else nums f lim (next n)) else []
def choose (s : V) (k : Nat) : List V :=
  if (members s).length < k then [] else (nums 1024 (1#32 <<< (members s).length) ((1#32 <<< k) - 1#32)).map (pick (members s))
theorem low_ne (n : U) (h : ¬ n = 0#32) (hn : n.toNat < 512) : ¬ (n &&& -n) = 0#32 := by
  have h1 : ∀ x : Fin 512, x.1 = 0 ∨ ¬ ((BitVec.ofNat 32 x.1) &&& -(BitVec.ofNat 32 x.1)) = 0#32 := by decide +kernel
  have h2 := h1 ⟨n.toNat, hn⟩
  have e : BitVec.ofNat 32 n.toNat = n := BitVec.eq_of_toNat_eq (by simp)
  simp only [e] at h2
  exact h2.resolve_left (fun h3 => h (BitVec.eq_of_toNat_eq (by simpa using h3)))
theorem next_gt (n : U) (h : ¬ n = 0#32) (hn : n.toNat < 512) : n.toNat < (next n).toNat := by
  have h1 : ∀ x : Fin 512, x.1 = 0 ∨ x.1 < (next (BitVec.ofNat 32 x.1)).toNat := by decide +kernel
  have h2 := h1 ⟨n.toNat, hn⟩
  have e : BitVec.ofNat 32 n.toNat = n := BitVec.eq_of_toNat_eq (by simp)
  simp only [e] at h2
  exact h2.resolve_left (fun h3 => h (BitVec.eq_of_toNat_eq (by simpa using h3)))
end T

theorem or_one (a : V) (n : Nat) (h : n < 32) : bits .or .u16 (M a) (IntKind.u16.wrap ((2 : Int) ^ min n 16)) = M (a ||| 1#16 <<< n) := by
  have h1 : ∀ x : Fin 32, IntKind.u16.wrap ((2 : Int) ^ min x.1 16) = M (1#16 <<< x.1) := by decide
  rw [h1 ⟨n, h⟩]
  exact mor _ _

/-- what a round keeps: the library's table (block 0), the block b, and every block of integers -/
structure KpS (b : Nat) (W W' : World) : Prop where
  size : W.heap.size ≤ W'.heap.size
  keep : ∀ (k : Nat) (o : Obj), W.heap[k]? = some o → (k = 0 ∨ k = b ∨ ∃ c fz, o = .cells c 3 fz) → W'.heap[k]? = some o
theorem KpS.refl (b : Nat) (W : World) : KpS b W W := ⟨Nat.le_refl _, fun _ _ h _ => h⟩
theorem KpS.trans {b : Nat} {A B C : World} (h : KpS b A B) (k : KpS b B C) : KpS b A C := ⟨Nat.le_trans h.size k.size, fun i o hi ho => k.keep i o (h.keep i o hi ho) ho⟩
theorem KpS.of (b : Nat) {W W' : World} (h : Below W.heap.size W W') : KpS b W W' := ⟨h.size, fun k o hk _ => (h.block k (Array.getElem?_eq_some_iff.1 hk).1).trans hk⟩
theorem KpS.put {b : Nat} {w : World} (h0 : 0 < w.heap.size) (hb : b < w.heap.size) (W : World) (l : Nat) (o o' : Obj) (hl : w.heap.size ≤ l) (h : W.heap[l]? = some o) (hc : o.isCells = false) (_ : o.isWalk = false) : KpS b W (W.putObj l o') := by
  have hg := grownBy_putObj' W l o'
  refine ⟨hg.size, fun k u hk hu => (hg.block k (Array.getElem?_eq_some_iff.1 hk).1 (fun e => ?_)).trans hk⟩
  have e : k = l := Option.some.inj e
  subst e
  rcases hu with hu | hu | ⟨c, fz, hu⟩
  · omega
  · omega
  · rw [hk] at h
    have h := Option.some.inj h
    rw [← h, hu] at hc
    cases hc
theorem KpS.tab {b : Nat} {W W' : World} (h : KpS b W W') (hT : Tab W) : Tab W' := fun r hr => by
  have h1 := hT r hr
  have hlt := cell_lt h1
  have h2 := h.keep 0 _ (Array.getElem?_eq_getElem hlt) (.inl rfl)
  rw [← h1]
  unfold World.cell?
  rw [h2, Array.getElem?_eq_getElem hlt]
theorem KpS.cell {b j : Nat} {W W' : World} {v : Value} (h : KpS b W W') (hc : W.cell? ⟨b, j, none⟩ = some v) : W'.cell? ⟨b, j, none⟩ = some v := by
  have hlt := cell_lt hc
  have h2 := h.keep b _ (Array.getElem?_eq_getElem hlt) (.inr (.inl rfl))
  rw [← hc]
  unfold World.cell?
  rw [h2, Array.getElem?_eq_getElem hlt]
theorem KpS.ints {b B : Nat} {W W' : World} {v : Value} {xs : List Int} (h : KpS b W W') (hc : OwnsI B v xs W) : OwnsI B v xs W' := by
  obtain ⟨hl, hc⟩ := hc
  refine ⟨hl, ?_⟩
  rcases hc with hc | ⟨g, cap, cur, hv, hB, hg, hr⟩
  · exact .inl hc
  · exact .inr ⟨g, cap, cur, hv, hB, h.keep g _ hg (.inr (.inr ⟨_, _, rfl⟩)), hr⟩

theorem grown_of_below {W W' : World} (h : Below W.heap.size W W') : W.grownBy W' none := ⟨h.os, h.tape, h.output, h.size, fun k hk _ => h.block k hk⟩

set_option maxRecDepth 100000 in
set_option maxHeartbeats 200000 in
theorem choose_in (m : U → Int) (hm : ∀ _ : Unit, ∀ a, m a = (a.toNat : Int)) (hlt' : ∀ a b : U, a < b → m a < m b) (hge : ∀ a b : U, ¬ a < b → m b ≤ m a)
    (hbit1 : ∀ (a : U) (j : Nat), (a >>> j) &&& 1#32 = 1#32 → bits .and .u32 (m a / 2 ^ j) 1 = 1) (hbit0 : ∀ (a : U) (j : Nat), ¬ (a >>> j) &&& 1#32 = 1#32 → bits .and .u32 (m a / 2 ^ j) 1 = 0)
    (hneg : ∀ a : U, IntKind.u32.wrap (-(m a)) = m (-a)) (hand : ∀ a b : U, bits .and .u32 (m a) (m b) = m (a &&& b)) (hor : ∀ a b : U, bits .or .u32 (m a) (m b) = m (a ||| b)) (hxor : ∀ a b : U, bits .xor .u32 (m a) (m b) = m (a ^^^ b))
    (hadd : ∀ a b : U, IntKind.u32.wrap (m a + m b) = m (a + b)) (hquo : ∀ a b : U, IntKind.u32.wrap ((m a).tdiv (m b)) = m (a / b)) (hshr : ∀ a : U, m a / (4 : Int) = m (a >>> 2))
    (hinit : ∀ k : Nat, k ≤ 9 → ((2:Int) ^ k % 4294967296 - 1) % 4294967296 = m (1#32 <<< k - 1#32)) (hlim : ∀ k : Nat, k ≤ 9 → (2:Int) ^ k % 4294967296 = m (1#32 <<< k)) (s : V) (k : Nat) (hk : k ≤ 9) (hs : (T.members s).length ≤ 9) (l b Nn : Nat) (J Jx : List V → World → Prop) (pre : List V) (n : Nat) (W : World)
    (hY : ∀ q pre x W1, J pre W1 → pre.length < Nn → YieldAt Fence.wide q Tryd.prog l #[.int .u16 (M x)] W1 fun e W' =>
      (e = .returned (.bool true) ∧ J (pre ++ [x]) W' ∧ KpS b W1 W') ∨ (e = .returned (.bool false) ∧ Jx (pre ++ [x]) W'))
    (hN : pre.length + (T.choose s k).length ≤ Nn)
    (hT : Tab W) (hJ : AbidesFrom W.heap.size J) (h0 : J pre W) :
    CallsIn Fence.wide n Tryd.prog 32 #[.int .u16 (M s), .int .i64 (k : Int), .func (.yield l) #[] #[]] W fun e W' =>
      (e = .returned (.bool true) ∧ J (pre ++ T.choose s k) W' ∧ KpS b W W') ∨ (e = .returned (.bool false) ∧ ∃ q, q <+: T.choose s k ∧ Jx (pre ++ q) W') := by
  have hM := members_any s W hT
  have hM0 := hs
  have hch : ∀ _ : Unit, T.choose s k = if (T.members s).length < k then [] else (T.nums 1024 (1#32 <<< (T.members s).length) ((1#32 <<< k) - 1#32)).map (T.pick (T.members s)) := fun _ => rfl
  generalize T.choose s k = ch at hch hN
  have hsm := members_small s
  generalize T.members s = ms at hM hs hch hsm
  have hdd : ∀ k : Nat, (Fence.wide.depth.isSome = true → 1 ≤ k) := fun k h => by cases h
  have hkk : ((k : Int) < 0) = False := by simp
  by_cases hlt : ms.length < k
  · have hC : ∀ _ : Unit, ch = [] := fun _ => by rw [hch (), if_pos hlt]
    clear hch hinit hlim
    refine callsIn_of_wp Tryd.func32 rfl trivial ?_ rfl
    simp only [Tryd.ntmps32, List.size_toArray, List.length_cons, List.length_nil, Nat.reduceAdd, Nat.reduceSub, Array.replicate_succ, Array.replicate_zero, List.push_toArray, List.append_toArray, List.nil_append, List.cons_append]
    gi_wp2_with (refine ⟨trivial, hdd _, ?_⟩; gi_at_call 45; refine (callsIn_wide.2 hM).mono ?_; rintro e W1 ⟨v, rfl, hown, hB⟩; obtain ⟨ao, cap, hv, hcl, _⟩ := ownsI_ints hown; rw [hv] at hown ⊢; clear hv)
    go_ret
    exact .inl ⟨rfl, by rw [hC (), List.append_nil]; exact hJ _ _ _ _ h0 (grown_of_below hB) (fun r e => by cases e), KpS.of b hB⟩
  · refine callsIn_of_wp Tryd.func32 rfl trivial ?_ rfl
    simp only [Tryd.ntmps32, List.size_toArray, List.length_cons, List.length_nil, Nat.reduceAdd, Nat.reduceSub, Array.replicate_succ, Array.replicate_zero, List.push_toArray, List.append_toArray, List.nil_append, List.cons_append]
    have hi0 := hinit k hk
    have hL := hlim ms.length hs
    have hC : ∀ _ : Unit, (T.nums 1024 (1#32 <<< ms.length) (1#32 <<< k - 1#32)).map (T.pick ms) = ch := fun _ => by rw [hch (), if_neg hlt]
    clear hinit hlim hch hM0
    gi_wp2_with (refine ⟨trivial, hdd _, ?_⟩; gi_at_call 45; refine (callsIn_wide.2 hM).mono ?_; rintro e W1 ⟨v, rfl, hown, hB⟩; obtain ⟨ao, cap, hv, hcl, _⟩ := ownsI_ints hown; rw [hv] at hown ⊢; clear hv)
    have h1 : J pre W1 := hJ _ _ _ _ h0 (grown_of_below hB) (fun r e => by cases e)
    have hT1 := hT.keep hB
    have hK1 := KpS.of b hB
    have hlimb : (1#32 <<< ms.length).toNat ≤ 512 := by
      have h9 : ∀ j : Fin 10, (1#32 <<< j.1).toNat ≤ 512 := by decide
      exact h9 ⟨ms.length, by omega⟩
    generalize (1#32 <<< ms.length) = lim at hC hL hlimb
    generalize (1#32 <<< k - 1#32) = n0 at hC hi0
    rw [hi0]
    gi_loopw [8] (fun x wr => ∃ (f : Nat) (nn : U) (done : List V), x = .int .u32 (m nn) ∧ 1024 ≤ nn.toNat + f ∧ J (pre ++ done) wr ∧ KpS b W wr ∧ OwnsI W.heap.size (.slice ao ms.length cap) ms wr ∧ ∀ _ : Unit, done ++ (T.nums f lim nn).map (T.pick ms) = ch) (fun x _ => 4294967296 - (intOf x).toNat)
    case atStart => exact ⟨1024, n0, [], rfl, by omega, by rw [List.append_nil]; exact h1, hK1, hown, fun _ => by rw [List.nil_append]; exact hC ()⟩
    case round =>
      obtain ⟨f, nn, done, rfl, hf, hJd, hKd, hownd, Hr⟩ := hrel
      clear hC hi0 hT1 h1 hM hcl hown hT h0
      by_cases hl : nn < lim
      · have hl2 : m nn < 2 ^ ms.length % 4294967296 := by rw [hL]; exact hlt' _ _ hl
        obtain ⟨f', rfl⟩ : ∃ f', f = f' + 1 := ⟨f - 1, by have : nn.toNat < lim.toNat := hl; omega⟩
        obtain ⟨_, _, hv2, hcl, _⟩ := ownsI_ints hownd
        injection hv2 with e1 _ e3
        subst e1 e3
        rename World => W2
        gi_wp2
        gi_loopw [9, 34] (fun o i w2 => ∃ (j : Nat) (acc : V), i = .int .i64 (j : Int) ∧ j ≤ ms.length ∧ o = .int .u16 (M acc) ∧ w2 = W2 ∧ ∀ _ : Unit, T.pickF j (ms.drop j) nn acc = T.pick ms nn) (fun _ i _ => ms.length - (intOf i).toNat)
        case atStart => exact ⟨0, 0#16, rfl, by omega, rfl, rfl, fun _ => rfl⟩
        case round =>
          obtain ⟨j, acc, rfl, hj, rfl, rfl, Hp⟩ := hrel
          by_cases hjl : j < ms.length
          · obtain ⟨g, off, hao, hcell⟩ := hcl j hjl
            subst hao
            have hx := hsm (ms.getD j 0) (by rw [List.getD_eq_getElem?_getD, List.getElem?_eq_getElem hjl]; exact List.getElem_mem hjl)
            have Hp2 : ∀ _ : Unit, T.pickF (j + 1) (ms.drop (j + 1)) nn (if (nn >>> j) &&& 1#32 = 1#32 then acc ||| (1#16 <<< (ms.getD j 0).toNat) else acc) = T.pick ms nn := fun _ => by
              rw [← Hp (), List.drop_eq_getElem_cons hjl, T.pickF, List.getD_eq_getElem?_getD, List.getElem?_eq_getElem hjl]; rfl
            unfold intAt at hcell
            generalize ms.getD j 0 = x at hcell hx Hp2
            obtain ⟨xn, rfl⟩ : ∃ xn : Nat, x = xn := ⟨x.toNat, by omega⟩
            rw [Int.toNat_natCast] at Hp2
            clear Hp hcl
            by_cases hb : (nn >>> j) &&& 1#32 = 1#32
            · have hb1 := hbit1 nn j hb
              rw [if_pos hb] at Hp2
              clear hb
              gi_wp2
              go_roundw
              case rel => exact ⟨j + 1, _, by go_num, by omega, congrArg (fun x => Value.int .u16 x) (or_one acc xn (by omega)), by first | rfl | trivial, Hp2⟩
              case measure => simp [intOf]; omega
            · have hb1 := hbit0 nn j hb
              rw [if_neg hb] at Hp2
              clear hb
              gi_wp2
              go_roundw
              case rel => exact ⟨j + 1, _, by go_num, by omega, rfl, by first | rfl | trivial, Hp2⟩
              case measure => simp [intOf]; omega
          · obtain rfl : j = ms.length := by omega
            have hacc : acc = T.pick ms nn := by rw [← Hp (), List.drop_length]; rfl
            have Hr2 : ∀ _ : Unit, (done ++ [acc]) ++ ((if nn = 0#32 then [] else T.nums f' lim (T.next nn)).map (T.pick ms)) = ch := fun _ => by
              rw [← Hr (), T.nums, if_pos hl, List.map_cons, List.append_assoc, hacc]; rfl
            have hlen : (pre ++ done).length < Nn := by
              have h1 := congrArg List.length (Hr2 ())
              simp only [List.length_append, List.length_cons, List.length_nil] at h1 ⊢
              omega
            clear Hp Hr hacc
            obtain ⟨fn, tmps, assign, body, hy, hR⟩ := hY (n - 1) (pre ++ done) acc wr hJd hlen
            clear hY
            by_cases hz : nn = 0#32
            · have hz1 : m nn = 0 := by rw [hm (), hz]; rfl
              rw [if_pos hz] at Hr2
              clear hz hl hL hlimb
              gi_wp2
              refine ⟨hdd _, ?_⟩
              refine hR.mono ?_
              rintro e W3 (⟨rfl, hJ3, hk3⟩ | ⟨rfl, hx3⟩)
              · gi_wp2
                go_ret
                exact .inl ⟨rfl, by rw [← Hr2 (), List.map_nil, List.append_nil, ← List.append_assoc]; exact hJ3, hKd.trans hk3⟩
              · gi_wp2
                go_ret
                refine .inr ⟨rfl, done ++ [acc], ⟨_, Hr2 ()⟩, by rw [← List.append_assoc]; exact hx3⟩
            · have hz1 : (m nn == 0) = false := by
                rw [beq_eq_false_iff_ne, hm ()]
                intro h
                exact hz (BitVec.eq_of_toNat_eq (by simpa using h))
              rw [if_neg hz] at Hr2
              have hlow : (m (nn &&& -nn) == 0) = false := by
                rw [beq_eq_false_iff_ne, hm ()]
                intro h
                exact T.low_ne nn hz (by have : nn.toNat < lim.toNat := hl; omega) (BitVec.eq_of_toNat_eq (by simpa using h))
              have hlow2 : ¬ m (nn &&& -nn) = 0 := by simpa using hlow
              have hgt := T.next_gt nn hz (by have : nn.toNat < lim.toNat := hl; omega)
              have hnx : (nn + (nn &&& -nn)) ||| (((nn ^^^ (nn + (nn &&& -nn))) / (nn &&& -nn)) >>> 2) = T.next nn := rfl
              gi_wp2
              refine ⟨hdd _, ?_⟩
              refine hR.mono ?_
              rintro e W3 (⟨rfl, hJ3, hk3⟩ | ⟨rfl, hx3⟩)
              · gi_wp2
                go_roundw
                case rel => exact ⟨f', T.next nn, done ++ [acc], congrArg (fun x => Value.int .u32 (m x)) hnx, by omega, by rw [← List.append_assoc]; exact hJ3, hKd.trans hk3, hk3.ints hownd, Hr2⟩
                case measure =>
                  have hl3 : nn.toNat < lim.toNat := hl
                  show 4294967296 - (m (T.next nn)).toNat < 4294967296 - (m nn).toNat
                  rw [hm (), hm ()]
                  simp only [Int.toNat_natCast]
                  omega
              · gi_wp2
                go_ret
                refine .inr ⟨rfl, done ++ [acc], ⟨_, Hr2 ()⟩, by rw [← List.append_assoc]; exact hx3⟩
      · have hl2 : ¬ m nn < 2 ^ ms.length % 4294967296 := by rw [hL]; have := hge _ _ hl; omega
        have hn : ∀ _ : Unit, done = ch := fun _ => by
          rw [← Hr ()]
          cases f with
          | zero => simp [T.nums]
          | succ f => rw [T.nums, if_neg hl]; simp
        clear Hr hl
        gi_wp2
        go_ret
        exact .inl ⟨rfl, by rw [← hn ()]; exact hJd, hKd⟩
end Go.Proofs.YtjjmnpgbcgkcpaaDoor
