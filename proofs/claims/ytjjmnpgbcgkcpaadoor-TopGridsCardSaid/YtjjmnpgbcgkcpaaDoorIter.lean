/-
  The subsets of a set, in order: the contract of the iterator.
-/
import Derived.Test.YtjjmnpgbcgkcpaaDoorSub
set_option linter.unusedVariables false
namespace Go.Proofs.YtjjmnpgbcgkcpaaDoor
open Go.RowKit Go.Shelf
attribute [local go_sem] Oper.semAt_some

theorem wrap_N (a : U) : IntKind.u32.wrap (N a) = N a := by unfold N; rw [IntKind.wrap_u32]; have := a.isLt; omega
theorem ofInt_N (a : U) : BitVec.ofInt 32 (N a) = a := by
  apply BitVec.eq_of_toNat_eq
  rw [BitVec.toNat_ofInt]
  unfold N
  have := a.isLt
  omega
theorem wadd (a b : U) : IntKind.u32.wrap (N a + N b) = N (a + b) := by
  unfold N
  rw [IntKind.wrap_u32, BitVec.toNat_add]; omega
theorem wneg (a : U) : IntKind.u32.wrap (-(N a)) = N (-a) := by
  unfold N
  rw [IntKind.wrap_u32, BitVec.toNat_neg]
  have := a.isLt
  omega
theorem wxor (a b : U) : bits .xor .u32 (N a) (N b) = N (a ^^^ b) := by
  show IntKind.u32.wrap (((BitVec.ofInt 32 (N a)) ^^^ (BitVec.ofInt 32 (N b))).toNat : Int) = _
  rw [ofInt_N, ofInt_N]; exact wrap_N _
theorem wand (a b : U) : bits .and .u32 (N a) (N b) = N (a &&& b) := by
  show IntKind.u32.wrap (((BitVec.ofInt 32 (N a)) &&& (BitVec.ofInt 32 (N b))).toNat : Int) = _
  rw [ofInt_N, ofInt_N]; exact wrap_N _
theorem wor (a b : U) : bits .or .u32 (N a) (N b) = N (a ||| b) := by
  show IntKind.u32.wrap (((BitVec.ofInt 32 (N a)) ||| (BitVec.ofInt 32 (N b))).toNat : Int) = _
  rw [ofInt_N, ofInt_N]; exact wrap_N _
theorem wquo (a b : U) : IntKind.u32.wrap ((N a).tdiv (N b)) = N (a / b) := by
  have h1 : (N a).tdiv (N b) = ((a.toNat / b.toNat : Nat) : Int) := by unfold N; rfl
  rw [h1]
  unfold N
  rw [BitVec.toNat_udiv, IntKind.wrap_u32]
  have h2 : a.toNat / b.toNat ≤ a.toNat := Nat.div_le_self _ _
  have h3 := a.isLt
  generalize a.toNat / b.toNat = q at h2
  omega
theorem wshr (a : U) (j : Nat) : N a / (2 : Int) ^ j = N (a >>> j) := by
  unfold N
  rw [BitVec.toNat_ushiftRight, Nat.shiftRight_eq_div_pow, Int.natCast_ediv, Int.natCast_pow]
  rfl
theorem one_or (c : U) : c &&& 1#32 = 1#32 ∨ c &&& 1#32 = 0#32 := by
  have h1 : (c &&& 1#32).toNat = c.toNat % 2 := by
    rw [BitVec.toNat_and]
    exact Nat.and_two_pow_sub_one_eq_mod c.toNat 1
  have h2 : c.toNat % 2 = 0 ∨ c.toNat % 2 = 1 := by omega
  rcases h2 with h2 | h2
  · exact .inr (BitVec.eq_of_toNat_eq (by rw [h1, h2]; rfl))
  · exact .inl (BitVec.eq_of_toNat_eq (by rw [h1, h2]; rfl))

namespace T
def cnt (s : V) : Nat := pc 8 (s.toNat / 256) + pc 8 (s.toNat % 256)
theorem count_cnt (s : V) : count s = (cnt s : Int) := rfl
def subsF (s : V) (k : Nat) : List V := (List.range k).flatMap (choose s)
def subsets (s : V) : List V := subsF s (cnt s + 1)
theorem subsF_succ (s : V) (k : Nat) : subsF s (k + 1) = subsF s k ++ choose s k := by
  unfold subsF
  rw [List.range_succ, List.flatMap_append]
  simp
theorem subsF_prefix (s : V) : ∀ (d k : Nat), subsF s k <+: subsF s (k + d)
  | 0, k => List.prefix_refl _
  | d + 1, k => by
    have h := subsF_prefix s d k
    rw [← Nat.add_assoc, subsF_succ]
    exact h.trans (List.prefix_append _ _)
set_option maxRecDepth 100000 in
theorem small_cnt : ∀ i : Fin 512, cnt (BitVec.ofNat 16 i.1) ≤ 9 ∧ (members (BitVec.ofNat 16 i.1)).length ≤ 9 := by decide +kernel
theorem small (s : V) (hs : s.toNat < 512) : cnt s ≤ 9 ∧ (members s).length ≤ 9 := by
  have h := small_cnt ⟨s.toNat, hs⟩
  have e : BitVec.ofNat 16 s.toNat = s := BitVec.eq_of_toNat_eq (by simp)
  simpa only [e] using h
end T

theorem choose_any (s : V) (k : Nat) (hk : k ≤ 9) (hs : (T.members s).length ≤ 9) (l b Nn : Nat) (J Jx : List V → World → Prop) (pre : List V) (n : Nat) (W : World)
    (hY : ∀ q pre x W1, J pre W1 → pre.length < Nn → YieldAt Fence.wide q Tryd.prog l #[.int .u16 (M x)] W1 fun e W' =>
      (e = .returned (.bool true) ∧ J (pre ++ [x]) W' ∧ KpS b W1 W') ∨ (e = .returned (.bool false) ∧ Jx (pre ++ [x]) W'))
    (hN : pre.length + (T.choose s k).length ≤ Nn)
    (hT : Tab W) (hJ : AbidesFrom W.heap.size J) (h0 : J pre W) :
    CallsIn Fence.wide n Tryd.prog 32 #[.int .u16 (M s), .int .i64 (k : Int), .func (.yield l) #[] #[]] W fun e W' =>
      (e = .returned (.bool true) ∧ J (pre ++ T.choose s k) W' ∧ KpS b W W') ∨ (e = .returned (.bool false) ∧ ∃ q, q <+: T.choose s k ∧ Jx (pre ++ q) W') := by
  have hi : ∀ j : Fin 10, ((2:Int) ^ j.1 % 4294967296 - 1) % 4294967296 = N (1#32 <<< j.1 - 1#32) := by decide
  have hl : ∀ j : Fin 10, (2:Int) ^ j.1 % 4294967296 = N (1#32 <<< j.1) := by decide
  refine choose_in N (fun _ _ => rfl) ?_ ?_ ?_ ?_ wneg wand wor wxor wadd wquo ?_ (fun k hk => hi ⟨k, by omega⟩) (fun k hk => hl ⟨k, by omega⟩) s k hk hs l b Nn J Jx pre n W hY hN hT hJ h0
  · intro a b h
    have h : a.toNat < b.toNat := h
    unfold N; omega
  · intro a b h
    have h : ¬ a.toNat < b.toNat := h
    unfold N; omega
  · intro a j h
    rw [wshr]
    have h2 := wand (a >>> j) 1#32
    rw [h] at h2
    exact h2
  · intro a j h
    rw [wshr]
    have h2 := wand (a >>> j) 1#32
    rw [(one_or _).resolve_left h] at h2
    exact h2
  · intro a
    exact wshr a 2

theorem room_of_none {F : Fence} (hd : F.depth = none) (k : Nat) : F.room k := fun d h => by rw [hd] at h; cases h
theorem RoundIn.anyDepth {F : Fence} (hd : F.depth = none) {m m' : Nat} {P : Program} {l : Nat} {f : FuncId} {tmps : Array Value} {assign body : Code} {w : World} {R : Ending → World → Prop}
    (h : RoundIn F m P l f tmps assign body w R) : RoundIn F m' P l f tmps assign body w R := ⟨h.1, fun c cs _ => h.2 c cs (room_of_none hd _)⟩
theorem YieldAt.anyDepth {F : Fence} (hd : F.depth = none) {m : Nat} (m' : Nat) {P : Program} {l : Nat} {args : Array Value} {W : World} {R : Ending → World → Prop} (h : YieldAt F m P l args W R) : YieldAt F m' P l args W R := by
  obtain ⟨fn, tmps, assign, body, hy, hR⟩ := h
  exact ⟨fn, tmps, assign, body, hy, RoundIn.anyDepth hd hR⟩
theorem abides_mono {β : Type} {B B' : Nat} {J : β → World → Prop} (h : AbidesFrom B J) (hB : B ≤ B') : AbidesFrom B' J := fun s W W' row hs hg hr => h s W W' row hs hg (fun r e => ⟨Nat.le_trans hB (hr r e).1, (hr r e).2⟩)

set_option maxRecDepth 100000 in
set_option maxHeartbeats 200000 in
theorem subs1_in (s : V) (b Nn l n : Nat) (hc9 : T.cnt s ≤ 9) (hm9 : (T.members s).length ≤ 9) (J Jx : List V → World → Prop) (W : World)
    (hY : ∀ q pre x W1, J pre W1 → pre.length < Nn → YieldAt Fence.wide q Tryd.prog l #[.int .u16 (M x)] W1 fun e W' =>
      (e = .returned (.bool true) ∧ J (pre ++ [x]) W' ∧ KpS b W1 W') ∨ (e = .returned (.bool false) ∧ Jx (pre ++ [x]) W'))
    (hN : (T.subsets s).length ≤ Nn) (hb : W.cell? ⟨b, 0, none⟩ = some (.int .u16 (M s))) (hT : Tab W) (hJ : AbidesFrom W.heap.size J) (h0 : J [] W) :
    CallsIn Fence.wide n Tryd.prog 30 #[.func (.yield l) #[] #[], .pointer (some ⟨b, 0, none⟩)] W fun e W' => (∃ v, e = .returned v) ∧
      ((∃ xs, xs = T.subsets s ∧ J xs W') ∨ (∃ pre, pre <+: T.subsets s ∧ Jx pre W')) := by
  have hdd : ∀ k : Nat, (Fence.wide.depth.isSome = true → 1 ≤ k) := fun k h => by cases h
  have hcc := T.count_cnt s
  have hpf := T.subsF_prefix s
  have hsucc := T.subsF_succ s
  have hsub : T.subsets s = T.subsF s (T.cnt s + 1) := rfl
  rw [hsub] at hN ⊢
  clear hsub
  have h00 : T.subsF s 0 = [] := rfl
  have hch := fun (k : Nat) (hk : k ≤ 9) (pre : List V) (n : Nat) (wr : World) => choose_any s k hk hm9 l b Nn J Jx pre n wr hY
  clear hY
  generalize T.subsF s = sf at hN hpf hsucc h00 ⊢
  generalize T.choose s = ch at hsucc hch
  have hcnt := fun w => count_any s w
  rw [hcc] at hcnt
  clear hcc hm9
  generalize T.cnt s = c at hcnt hN hc9 ⊢
  refine callsIn_of_wp Tryd.func30 rfl trivial ?_ rfl
  simp only [Tryd.ntmps30, List.size_toArray, List.length_cons, List.length_nil, Nat.reduceAdd, Nat.reduceSub, Array.replicate_succ, Array.replicate_zero, List.push_toArray, List.append_toArray, List.nil_append, List.cons_append]
  gi_wp2
  gi_loopw [3] (fun x wr => ∃ (k : Nat), x = .int .i64 (k : Int) ∧ k ≤ c + 1 ∧ J (sf k) wr ∧ KpS b W wr) (fun x _ => 100 - (intOf x).toNat)
  case atStart => exact ⟨0, rfl, by omega, by rw [h00]; exact h0, KpS.refl b W⟩
  case round =>
    obtain ⟨k, rfl, hk, hJk, hKp⟩ := hrel
    have hcb := hKp.cell hb
    have hcn := hcnt wr
    by_cases hle : k ≤ c
    · have hca := hch k (by omega) (sf k)
      have hlen : (sf k).length + (ch k).length ≤ Nn := by
        have h1 := (hpf (c - k) (k + 1)).length_le
        rw [hsucc, List.length_append] at h1
        have e : k + 1 + (c - k) = c + 1 := by omega
        rw [e] at h1
        omega
      have hTr := hKp.tab hT
      have hJr := abides_mono hJ hKp.size
      gi_wp2_with (refine ⟨trivial, hdd _, ?_⟩; gi_at_call 31; refine (callsIn_wide.2 hcn).mono ?_; rintro e W2 ⟨rfl, hB2⟩; have hcb2 := (hB2.cell (cell_lt hcb)).trans hcb; have hca2 := fun n => hca n W2 hlen (hTr.keep hB2) (abides_mono hJr hB2.size) (hJr _ _ _ _ hJk (grown_of_below hB2) (fun r e => by cases e)); have hK2 := hKp.trans (KpS.of b hB2); clear hca hcn hcb)
      gi_wp2_with (refine ⟨trivial, hdd _, ?_⟩; gi_at_call 32; refine (hca2 _).mono ?_; rintro e W3 (⟨rfl, hJ3, hk3⟩ | ⟨rfl, q, hq, hx3⟩))
      · gi_wp2
        go_roundw
        case rel => exact ⟨k + 1, by go_num, by omega, by rw [hsucc]; exact hJ3, hK2.trans hk3⟩
        case measure => simp [intOf]; omega
      · gi_wp2
        go_end0
        refine ⟨⟨_, rfl⟩, .inr ⟨_, ?_, hx3⟩⟩
        have h1 := hpf (c - k) (k + 1)
        have e : k + 1 + (c - k) = c + 1 := by omega
        rw [e, hsucc] at h1
        exact ((List.prefix_append_right_inj _).2 hq).trans h1
    · have hke : k = c + 1 := by omega

      gi_wp2_with (refine ⟨trivial, hdd _, ?_⟩; gi_at_call 31; refine (callsIn_wide.2 hcn).mono ?_; rintro e W2 ⟨rfl, hB2⟩)
      refine ⟨trivial, ?_⟩
      gi_wp2
      go_end0
      rw [hke] at hJk
      exact ⟨⟨_, rfl⟩, .inl ⟨_, rfl, abides_mono hJ hKp.size _ _ _ _ hJk (grown_of_below hB2) (fun r e => by cases e)⟩⟩

theorem subs_stops (s : V) (hs : s.toNat < 512) (b n : Nat) (w : World) (hbw : b < w.heap.size) (hb : w.cell? ⟨b, 0, none⟩ = some (.int .u16 (M s))) (hT : Tab w) :
    SeqStopsK Fence.wide n Tryd.prog 30 #[.pointer (some ⟨b, 0, none⟩)] (fun x : V => #[Value.int .u16 (M x)]) (KpS b) (fun xs => xs = T.subsets s) (fun pre => pre <+: T.subsets s) (T.subsets s).length w := fun l J Jx W hW hJ _ hY h0 =>
  subs1_in s b _ l n (T.small s hs).1 (T.small s hs).2 J Jx W (fun q pre x W1 hj hl => YieldAt.anyDepth rfl q (hY pre x W1 hj hl)) (Nat.le_refl _) ((hW.cell hbw).trans hb) (hT.keep hW) hJ h0

set_option maxHeartbeats 200000 in
theorem subsets_any (s : V) (w : World) : Calls Tryd.prog 15 #[.int .u16 (M s)] w fun e w' => e = .returned (.func (.func 30) #[] #[.pointer (some ⟨w.heap.size, 0, none⟩)]) ∧ w' = w.alloc (.cells #[.int .u16 (M s)] 33) := by
  go_enter Tryd.func15, Tryd.ntmps15
  go_wp2_with fail
  go_ret
  exact ⟨rfl, rfl⟩

end Go.Proofs.YtjjmnpgbcgkcpaaDoor
