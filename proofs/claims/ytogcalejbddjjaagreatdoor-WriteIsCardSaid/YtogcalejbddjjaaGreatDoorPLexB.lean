import Derived.Test.YtogcalejbddjjaaGreatDoorPLexA
import Derived.Test.YtogcalejbddjjaaGreatDoorInkBB
set_option linter.all false
namespace Ink.D
open Go Go.Proofs
set_option maxRecDepth 100000
variable {E : Env} (hE : E.P = Tryz.prog)

def hexUp (c : UInt8) : UInt8 := ([48, 49, 50, 51, 52, 53, 54, 55, 56, 57, 65, 66, 67, 68, 69, 70] : List UInt8).getD c.toNat 0
def plainN (c : UInt8) : Bool := isReg c && c != 35 && decide (32 < c.toNat) && decide (c.toNat ≤ 126)
def nameC (c : UInt8) : List UInt8 := if plainN c then [c] else [35, hexUp (c >>> 4), hexUp (c &&& 15)]

theorem shr4_u8 (a : UInt8) : ((a.toNat : Int).fdiv (2 ^ (min (4 : Int).toNat (IntKind.bits .u8)))) = ((a >>> 4).toNat : Int) := by
  revert a
  refine u8all ?_
  decide +kernel

theorem and15_u8 (a : UInt8) : bits .and .u8 (a.toNat : Int) 15 = ((a &&& 15).toNat : Int) := by
  revert a
  refine u8all ?_
  decide +kernel

theorem nib_lt (a : UInt8) : (a >>> 4).toNat < 16 ∧ (a &&& 15).toNat < 16 := by
  revert a
  refine u8all ?_
  decide +kernel

theorem nameC_len (l : List UInt8) : ((l.map nameC).flatten).length ≤ 3 * l.length := by
  induction l with
  | nil => simp
  | cons c r ih =>
    have : (nameC c).length ≤ 3 := by unfold nameC; split <;> simp
    simp only [List.map_cons, List.flatten_cons, List.length_append, List.length_cons]
    omega

include hE
theorem nameOf (s : List UInt8) (hs : s.length < 1000000) : PCalls E 95 [.str s] (· = .str (47 :: (s.map nameC).flatten)) := by
  refine p95 hE fun l => ?_
  conv => whnf
  refine ⟨by omega, ?_⟩
  conv => whnf
  let out : Nat → List UInt8 := fun x => 47 :: ((s.take x).map nameC).flatten
  refine LoopG.s (fun x : Nat => x ≤ s.length) 45 (fun x => [(0, .str s), (3, .own 1 0 0 (out x).length 1), (8, .int .i64 s.length), (9, .int .i64 x)]) (fun x => [⟨0, true, .frame l⟩, ⟨0, true, .cells 5 (bytesAV (out x))⟩]) (fun x => s.length - x) 0 (by omega) rfl ⟨rfl, rfl, rfl, rfl⟩ rfl ?_
  intro x h1
  conv => whnf
  split
  · rename_i hlt
    have hlt : x < s.length := by simpa using hlt
    have hg := getD_at s x hlt
    have hout : out (x + 1) = out x ++ nameC s[x] := by
      show 47 :: ((s.take (x + 1)).map nameC).flatten = 47 :: ((s.take x).map nameC).flatten ++ nameC s[x]
      rw [List.take_succ_eq_append_getElem hlt, List.map_append, List.flatten_append]
      simp
    generalize hc : s[x] = c at *
    conv => whnf
    refine ⟨by omega, ?_⟩
    rw [hg]
    conv => whnf
    refine CallG.e (regular hE c) ?_
    conv => whnf
    have hol : (out x).length ≤ 3 * x + 1 := by
      have := nameC_len (s.take x)
      simp at this
      show (47 :: ((s.take x).map nameC).flatten).length ≤ _
      simp
      omega
    cases hr : isReg c with
    | false =>
      have hpl : plainN c = false := by simp [plainN, hr]
      have hnc : nameC c = [35, hexUp (c >>> 4), hexUp (c &&& 15)] := by simp [nameC, hpl]
      have hnib := nib_lt c
      conv => whnf
      refine ⟨by decide, ?_⟩
      rw [shr4_u8]
      conv => whnf
      refine ⟨by show (0 : Int) ≤ _ ∧ _ < (16 : Int); omega, ?_⟩
      conv => whnf
      rw [and15_u8]
      refine ⟨by show (0 : Int) ≤ _ ∧ _ < (16 : Int); omega, ?_⟩
      conv => whnf
      refine ⟨⟨rfl, rfl, rfl, by simp [bytesAV_length], by decide, by simp; omega⟩, ?_⟩
      conv => whnf
      refine ⟨by unfold inI64; omega, ?_⟩
      conv => whnf
      refine ⟨x + 1, ⟨by omega, by omega⟩, ?_⟩
      refine Wk.ver 1 1 (k := .cells 5 (bytesAV (out (x + 1)))) rfl ?_ rfl ?_ rfl ?_
      · refine congrArg (fun z => some (Blk.mk 1 true (.cells 5 z))) ?_
        rw [hout, hnc]
        rw [List.drop_zero, Nat.mul_one, bytesAV_take, bytesAV_append]
        rfl
      · refine ⟨⟨_, rfl, .inl ⟨rfl, rfl⟩⟩, ⟨_, rfl, .inr ⟨0, (out (x + 1)).length, 1, ?_, rfl⟩⟩, ⟨_, rfl, .inl ⟨rfl, rfl⟩⟩, ⟨_, rfl, .inl ⟨rfl, rfl⟩⟩, trivial⟩
        rw [hout, hnc, List.length_append]; rfl
      · simp [nhH, nhB, nhL_bytes]
    | true =>
      conv => whnf
      split
      · rename_i h35
        conv => whnf
        split
        · rename_i h32
          conv => whnf
          split
          · rename_i h126
            have hpl : plainN c = true := by
              rw [u8neg _ _ (by decide)] at h35
              simp only [plainN, hr, h35, Bool.true_and, Bool.and_eq_true, decide_eq_true_eq]
              simp at h32 h126
              omega
            have hnc : nameC c = [c] := by simp [nameC, hpl]
            conv => whnf
            refine ⟨⟨rfl, rfl, rfl, by simp [bytesAV_length], by decide, by simp; omega⟩, ?_⟩
            conv => whnf
            refine ⟨by unfold inI64; omega, ?_⟩
            conv => whnf
            refine ⟨x + 1, ⟨by omega, by omega⟩, ?_⟩
            refine Wk.ver 1 1 (k := .cells 5 (bytesAV (out (x + 1)))) rfl ?_ rfl ?_ rfl ?_
            · refine congrArg (fun z => some (Blk.mk 1 true (.cells 5 z))) ?_
              rw [hout, hnc]
              rw [List.drop_zero, Nat.mul_one, bytesAV_take, bytesAV_append]
              rfl
            · refine ⟨⟨_, rfl, .inl ⟨rfl, rfl⟩⟩, ⟨_, rfl, .inr ⟨0, (out (x + 1)).length, 1, ?_, rfl⟩⟩, ⟨_, rfl, .inl ⟨rfl, rfl⟩⟩, ⟨_, rfl, .inl ⟨rfl, rfl⟩⟩, trivial⟩
              rw [hout, hnc, List.length_append]; rfl
            · simp [nhH, nhB, nhL_bytes]
          · rename_i h126
            have hpl : plainN c = false := by
              have : ¬ c.toNat ≤ 126 := by simp at h126; omega
              simp [plainN, this]
            have hnc : nameC c = [35, hexUp (c >>> 4), hexUp (c &&& 15)] := by simp [nameC, hpl]
            have hnib := nib_lt c
            conv => whnf
            refine ⟨by decide, ?_⟩
            rw [shr4_u8]
            conv => whnf
            refine ⟨by show (0 : Int) ≤ _ ∧ _ < (16 : Int); omega, ?_⟩
            conv => whnf
            rw [and15_u8]
            refine ⟨by show (0 : Int) ≤ _ ∧ _ < (16 : Int); omega, ?_⟩
            conv => whnf
            refine ⟨⟨rfl, rfl, rfl, by simp [bytesAV_length], by decide, by simp; omega⟩, ?_⟩
            conv => whnf
            refine ⟨by unfold inI64; omega, ?_⟩
            conv => whnf
            refine ⟨x + 1, ⟨by omega, by omega⟩, ?_⟩
            refine Wk.ver 1 1 (k := .cells 5 (bytesAV (out (x + 1)))) rfl ?_ rfl ?_ rfl ?_
            · refine congrArg (fun z => some (Blk.mk 1 true (.cells 5 z))) ?_
              rw [hout, hnc]
              rw [List.drop_zero, Nat.mul_one, bytesAV_take, bytesAV_append]
              rfl
            · refine ⟨⟨_, rfl, .inl ⟨rfl, rfl⟩⟩, ⟨_, rfl, .inr ⟨0, (out (x + 1)).length, 1, ?_, rfl⟩⟩, ⟨_, rfl, .inl ⟨rfl, rfl⟩⟩, ⟨_, rfl, .inl ⟨rfl, rfl⟩⟩, trivial⟩
              rw [hout, hnc, List.length_append]; rfl
            · simp [nhH, nhB, nhL_bytes]
        · rename_i h32
          have hpl : plainN c = false := by
            have : ¬ 32 < c.toNat := by simp at h32; omega
            simp [plainN, this]
          have hnc : nameC c = [35, hexUp (c >>> 4), hexUp (c &&& 15)] := by simp [nameC, hpl]
          have hnib := nib_lt c
          conv => whnf
          refine ⟨by decide, ?_⟩
          rw [shr4_u8]
          conv => whnf
          refine ⟨by show (0 : Int) ≤ _ ∧ _ < (16 : Int); omega, ?_⟩
          conv => whnf
          rw [and15_u8]
          refine ⟨by show (0 : Int) ≤ _ ∧ _ < (16 : Int); omega, ?_⟩
          conv => whnf
          refine ⟨⟨rfl, rfl, rfl, by simp [bytesAV_length], by decide, by simp; omega⟩, ?_⟩
          conv => whnf
          refine ⟨by unfold inI64; omega, ?_⟩
          conv => whnf
          refine ⟨x + 1, ⟨by omega, by omega⟩, ?_⟩
          refine Wk.ver 1 1 (k := .cells 5 (bytesAV (out (x + 1)))) rfl ?_ rfl ?_ rfl ?_
          · refine congrArg (fun z => some (Blk.mk 1 true (.cells 5 z))) ?_
            rw [hout, hnc]
            rw [List.drop_zero, Nat.mul_one, bytesAV_take, bytesAV_append]
            rfl
          · refine ⟨⟨_, rfl, .inl ⟨rfl, rfl⟩⟩, ⟨_, rfl, .inr ⟨0, (out (x + 1)).length, 1, ?_, rfl⟩⟩, ⟨_, rfl, .inl ⟨rfl, rfl⟩⟩, ⟨_, rfl, .inl ⟨rfl, rfl⟩⟩, trivial⟩
            rw [hout, hnc, List.length_append]; rfl
          · simp [nhH, nhB, nhL_bytes]
      · rename_i h35
        have hpl : plainN c = false := by
          rw [u8neg _ _ (by decide)] at h35
          simp [plainN, h35]
        have hnc : nameC c = [35, hexUp (c >>> 4), hexUp (c &&& 15)] := by simp [nameC, hpl]
        have hnib := nib_lt c
        conv => whnf
        refine ⟨by decide, ?_⟩
        rw [shr4_u8]
        conv => whnf
        refine ⟨by show (0 : Int) ≤ _ ∧ _ < (16 : Int); omega, ?_⟩
        conv => whnf
        rw [and15_u8]
        refine ⟨by show (0 : Int) ≤ _ ∧ _ < (16 : Int); omega, ?_⟩
        conv => whnf
        refine ⟨⟨rfl, rfl, rfl, by simp [bytesAV_length], by decide, by simp; omega⟩, ?_⟩
        conv => whnf
        refine ⟨by unfold inI64; omega, ?_⟩
        conv => whnf
        refine ⟨x + 1, ⟨by omega, by omega⟩, ?_⟩
        refine Wk.ver 1 1 (k := .cells 5 (bytesAV (out (x + 1)))) rfl ?_ rfl ?_ rfl ?_
        · refine congrArg (fun z => some (Blk.mk 1 true (.cells 5 z))) ?_
          rw [hout, hnc]
          rw [List.drop_zero, Nat.mul_one, bytesAV_take, bytesAV_append]
          rfl
        · refine ⟨⟨_, rfl, .inl ⟨rfl, rfl⟩⟩, ⟨_, rfl, .inr ⟨0, (out (x + 1)).length, 1, ?_, rfl⟩⟩, ⟨_, rfl, .inl ⟨rfl, rfl⟩⟩, ⟨_, rfl, .inl ⟨rfl, rfl⟩⟩, trivial⟩
          rw [hout, hnc, List.length_append]; rfl
        · simp [nhH, nhB, nhL_bytes]
  · rename_i hlt
    have hlt : x = s.length := by simp at hlt; omega
    have ho : List.take (out x).length (List.drop 0 (bytesAV (out x))) = bytesAV (out x) := by simp [bytesAV_take]
    conv => whnf
    rw [ho, unAV_bytes]
    refine ⟨⟨rfl, by simp [bytesAV_length], rfl⟩, ?_⟩
    conv => whnf
    refine RetG.drop rfl rfl rfl ⟨rfl, ?_, rfl⟩
    show AV.str (47 :: ((s.take x).map nameC).flatten) = _
    rw [hlt, List.take_length]
end Ink.D

namespace Ink.D
open Go Go.Proofs
set_option maxRecDepth 100000
variable {E : Env} (hE : E.P = Tryz.prog)

abbrev qs : List UInt8 := [10, 13, 9, 8, 12, 40, 41, 92]
def quoteC (c : UInt8) : List UInt8 :=
  if 0 ≤ ix qs c then [92, ([110, 114, 116, 98, 102, 40, 41, 92] : List UInt8).getD (ix qs c).toNat 0]
  else if c.toNat < 32 ∨ 126 < c.toNat then [92, (48 : UInt8) + (c >>> 6), (48 : UInt8) + ((c >>> 3) &&& 7), (48 : UInt8) + (c &&& 7)] else [c]

theorem shr6_u8 (a : UInt8) : ((a.toNat : Int).fdiv (2 ^ (min (6 : Int).toNat (IntKind.bits .u8)))) = ((a >>> 6).toNat : Int) := by
  revert a
  refine u8all ?_
  decide +kernel
theorem shr3_u8 (a : UInt8) : ((a.toNat : Int).fdiv (2 ^ (min (3 : Int).toNat (IntKind.bits .u8)))) = ((a >>> 3).toNat : Int) := by
  revert a
  refine u8all ?_
  decide +kernel
theorem and7_u8 (a : UInt8) : bits .and .u8 (a.toNat : Int) 7 = ((a &&& 7).toNat : Int) := by
  revert a
  refine u8all ?_
  decide +kernel
theorem add48_u8 (a : UInt8) : IntKind.wrap .u8 (48 + (a.toNat : Int)) = ((48 + a).toNat : Int) := by
  revert a
  refine u8all ?_
  decide +kernel

theorem quoteC_len (l : List UInt8) : ((l.map quoteC).flatten).length ≤ 4 * l.length := by
  induction l with
  | nil => simp
  | cons c r ih =>
    have : (quoteC c).length ≤ 4 := by unfold quoteC; split <;> (try split) <;> simp
    simp only [List.map_cons, List.flatten_cons, List.length_append, List.length_cons]
    omega

include hE
theorem quote (s : List UInt8) (hs : s.length < 1000000) : PCalls E 96 [.str s] (· = .str (40 :: (s.map quoteC).flatten ++ [41])) := by
  refine p96 hE fun l => ?_
  conv => whnf
  refine ⟨by omega, ?_⟩
  conv => whnf
  let out : Nat → List UInt8 := fun x => 40 :: ((s.take x).map quoteC).flatten
  refine LoopG.s (fun x : Nat => x ≤ s.length) 55 (fun x => [(0, .str s), (3, .own 1 0 0 (out x).length 1), (9, .int .i64 s.length), (10, .int .i64 x)]) (fun x => [⟨0, true, .frame l⟩, ⟨0, true, .cells 5 (bytesAV (out x))⟩]) (fun x => s.length - x) 0 (by omega) rfl ⟨rfl, rfl, rfl, rfl⟩ rfl ?_
  intro x h1
  have hol : (out x).length ≤ 4 * x + 1 := by
    have := quoteC_len (s.take x)
    simp at this
    show (40 :: ((s.take x).map quoteC).flatten).length ≤ _
    simp
    omega
  conv => whnf
  split
  · rename_i hlt
    have hlt : x < s.length := by simpa using hlt
    have hg := getD_at s x hlt
    have hout : out (x + 1) = out x ++ quoteC s[x] := by
      show 40 :: ((s.take (x + 1)).map quoteC).flatten = 40 :: ((s.take x).map quoteC).flatten ++ quoteC s[x]
      rw [List.take_succ_eq_append_getElem hlt, List.map_append, List.flatten_append]
      simp
    generalize hc : s[x] = c at *
    conv => whnf
    refine ⟨by omega, ?_⟩
    rw [hg]
    conv => whnf
    refine CallG.e (index47 hE qs c (by decide)) ?_
    have hix := ix_le qs c
    conv => whnf
    split
    · rename_i hj
      have hj : 0 ≤ ix qs c := by simpa using hj
      have hnc : quoteC c = [92, ([110, 114, 116, 98, 102, 40, 41, 92] : List UInt8).getD (ix qs c).toNat 0] := by simp only [quoteC, hj, if_true]
      conv => whnf
      refine ⟨⟨hj, hix.2⟩, ?_⟩
      conv => whnf
      refine ⟨⟨rfl, rfl, rfl, by simp [bytesAV_length], by decide, by simp; omega⟩, ?_⟩
      conv => whnf
      refine ⟨by unfold inI64; omega, ?_⟩
      conv => whnf
      refine ⟨x + 1, ⟨by omega, by omega⟩, ?_⟩
      refine Wk.ver 1 1 (k := .cells 5 (bytesAV (out (x + 1)))) rfl ?_ rfl ?_ rfl ?_
      · refine congrArg (fun z => some (Blk.mk 1 true (.cells 5 z))) ?_
        rw [hout, hnc]
        rw [List.drop_zero, Nat.mul_one, bytesAV_take, bytesAV_append]
        rfl
      · refine ⟨⟨_, rfl, .inl ⟨rfl, rfl⟩⟩, ⟨_, rfl, .inr ⟨0, (out (x + 1)).length, 1, ?_, rfl⟩⟩, ⟨_, rfl, .inl ⟨rfl, rfl⟩⟩, ⟨_, rfl, .inl ⟨rfl, rfl⟩⟩, trivial⟩
        rw [hout, hnc, List.length_append]; rfl
      · simp [nhH, nhB, nhL_bytes]
    · rename_i hj
      have hj : ¬ 0 ≤ ix qs c := by simpa using hj
      conv => whnf
      split
      · rename_i h32
        have hq : c.toNat < 32 ∨ 126 < c.toNat := by simp at h32; omega
        conv => whnf
        have hnc : quoteC c = ([92, (48 : UInt8) + (c >>> 6), (48 : UInt8) + ((c >>> 3) &&& 7), (48 : UInt8) + (c &&& 7)] : List UInt8) := by simp only [quoteC, hj, if_false]; rw [if_pos hq]
        conv => whnf
        refine ⟨by decide, ?_⟩
        rw [shr6_u8]
        conv => whnf
        rw [add48_u8]
        refine ⟨by decide, ?_⟩
        rw [shr3_u8]
        conv => whnf
        rw [and7_u8, add48_u8]
        conv => whnf
        rw [and7_u8, add48_u8]
        refine ⟨⟨rfl, rfl, rfl, by simp [bytesAV_length], by decide, by simp; omega⟩, ?_⟩
        conv => whnf
        refine ⟨by unfold inI64; omega, ?_⟩
        conv => whnf
        refine ⟨x + 1, ⟨by omega, by omega⟩, ?_⟩
        refine Wk.ver 1 1 (k := .cells 5 (bytesAV (out (x + 1)))) rfl ?_ rfl ?_ rfl ?_
        · refine congrArg (fun z => some (Blk.mk 1 true (.cells 5 z))) ?_
          rw [hout, hnc]
          rw [List.drop_zero, Nat.mul_one, bytesAV_take, bytesAV_append]
          rfl
        · refine ⟨⟨_, rfl, .inl ⟨rfl, rfl⟩⟩, ⟨_, rfl, .inr ⟨0, (out (x + 1)).length, 1, ?_, rfl⟩⟩, ⟨_, rfl, .inl ⟨rfl, rfl⟩⟩, ⟨_, rfl, .inl ⟨rfl, rfl⟩⟩, trivial⟩
          rw [hout, hnc, List.length_append]; rfl
        · simp [nhH, nhB, nhL_bytes]
      · rename_i h32
        conv => whnf
        split
        · rename_i h126
          have hq : c.toNat < 32 ∨ 126 < c.toNat := by simp at h126; omega
          conv => whnf
          have hnc : quoteC c = ([92, (48 : UInt8) + (c >>> 6), (48 : UInt8) + ((c >>> 3) &&& 7), (48 : UInt8) + (c &&& 7)] : List UInt8) := by simp only [quoteC, hj, if_false]; rw [if_pos hq]
          conv => whnf
          refine ⟨by decide, ?_⟩
          rw [shr6_u8]
          conv => whnf
          rw [add48_u8]
          refine ⟨by decide, ?_⟩
          rw [shr3_u8]
          conv => whnf
          rw [and7_u8, add48_u8]
          conv => whnf
          rw [and7_u8, add48_u8]
          refine ⟨⟨rfl, rfl, rfl, by simp [bytesAV_length], by decide, by simp; omega⟩, ?_⟩
          conv => whnf
          refine ⟨by unfold inI64; omega, ?_⟩
          conv => whnf
          refine ⟨x + 1, ⟨by omega, by omega⟩, ?_⟩
          refine Wk.ver 1 1 (k := .cells 5 (bytesAV (out (x + 1)))) rfl ?_ rfl ?_ rfl ?_
          · refine congrArg (fun z => some (Blk.mk 1 true (.cells 5 z))) ?_
            rw [hout, hnc]
            rw [List.drop_zero, Nat.mul_one, bytesAV_take, bytesAV_append]
            rfl
          · refine ⟨⟨_, rfl, .inl ⟨rfl, rfl⟩⟩, ⟨_, rfl, .inr ⟨0, (out (x + 1)).length, 1, ?_, rfl⟩⟩, ⟨_, rfl, .inl ⟨rfl, rfl⟩⟩, ⟨_, rfl, .inl ⟨rfl, rfl⟩⟩, trivial⟩
            rw [hout, hnc, List.length_append]; rfl
          · simp [nhH, nhB, nhL_bytes]
        · rename_i h126
          have hq : ¬ (c.toNat < 32 ∨ 126 < c.toNat) := by simp at h32 h126; omega
          have hnc : quoteC c = [c] := by simp only [quoteC, hj, if_false]; rw [if_neg hq]
          conv => whnf
          refine ⟨⟨rfl, rfl, rfl, by simp [bytesAV_length], by decide, by simp; omega⟩, ?_⟩
          conv => whnf
          refine ⟨by unfold inI64; omega, ?_⟩
          conv => whnf
          refine ⟨x + 1, ⟨by omega, by omega⟩, ?_⟩
          refine Wk.ver 1 1 (k := .cells 5 (bytesAV (out (x + 1)))) rfl ?_ rfl ?_ rfl ?_
          · refine congrArg (fun z => some (Blk.mk 1 true (.cells 5 z))) ?_
            rw [hout, hnc]
            rw [List.drop_zero, Nat.mul_one, bytesAV_take, bytesAV_append]
            rfl
          · refine ⟨⟨_, rfl, .inl ⟨rfl, rfl⟩⟩, ⟨_, rfl, .inr ⟨0, (out (x + 1)).length, 1, ?_, rfl⟩⟩, ⟨_, rfl, .inl ⟨rfl, rfl⟩⟩, ⟨_, rfl, .inl ⟨rfl, rfl⟩⟩, trivial⟩
            rw [hout, hnc, List.length_append]; rfl
          · simp [nhH, nhB, nhL_bytes]
  · rename_i hlt
    have hlt : x = s.length := by simp at hlt; omega
    conv => whnf
    refine ⟨⟨rfl, rfl, rfl, by simp [bytesAV_length], by decide, by simp; omega⟩, ?_⟩
    have ho : List.take ((out x).length * 1) (List.drop 0 (bytesAV (out x))) ++ [[AV.int .u8 41]].flatten = bytesAV (out x ++ [41]) := by
      rw [List.drop_zero, Nat.mul_one, bytesAV_take, bytesAV_append]; rfl
    conv => whnf
    have ht : List.take ((out x).length + [[AV.int .u8 41]].length) (bytesAV (out x ++ [41])) = bytesAV (out x ++ [41]) := List.take_of_length_le (by simp [bytesAV_length])
    rw [ho, List.drop_zero, ht, unAV_bytes]
    refine ⟨⟨rfl, by simp [bytesAV_length], rfl⟩, ?_⟩
    conv => whnf
    refine RetG.drop rfl rfl rfl ⟨rfl, ?_, rfl⟩
    show AV.str (40 :: ((s.take x).map quoteC).flatten ++ [41]) = _
    rw [hlt, List.take_length]
end Ink.D

namespace Ink.D
open Go Go.Proofs
set_option maxRecDepth 100000
variable {E : Env} (hE : E.P = Tryz.prog)

def digsL : List UInt8 → Except Int (List UInt8 × Nat)
  | [] => .error 4
  | c :: r => match hexN c with
    | some v => (digsL r).map fun x => (v :: x.1, 1 + x.2)
    | none => if c = 62 then .ok ([], 1) else if isWhite c then (digsL r).map fun x => (x.1, 1 + x.2) else .error 3

def pairL : List UInt8 → List UInt8
  | a :: b :: r => (a <<< 4 ||| b) :: pairL r
  | [a] => [a <<< 4]
  | [] => []

def digAVs (k : Nat) (o : Except Int (List UInt8 × Nat)) : AV := match o with
  | .ok x => tkE (tk 3 0 (pairL x.1) false k (k + 1 + x.2 : Nat)) 0
  | .error e => tkE (tk 0 0 [] false 0 0) e

include hE
theorem digits (s : List UInt8) (k : Nat) (hs : s.length < 1000000) (hk : k < s.length) : PCalls E 204 [.str s, tk 0 0 [] false k 0] (· = digAVs k (digsL (s.drop (k + 1)))) := by
  refine p204 hE fun l => ?_
  conv => whnf
  refine ⟨by unfold inI64; omega, ?_⟩
  conv => whnf
  refine LoopG.w (fun x : Nat × List UInt8 => k < x.1 ∧ x.1 ≤ s.length ∧ x.2.length ≤ x.1 ∧ digsL (s.drop (k + 1)) = (digsL (s.drop x.1)).map fun y => (x.2 ++ y.1, x.1 - (k + 1) + y.2)) 77
    (fun x => [(0, .str s), (3, .ptr 1 0 0), (4, .ptr 2 0 0), (6, .own 3 0 0 x.2.length 1), (7, .int .i64 x.1)])
    (fun x => [⟨0, true, .frame l⟩, ⟨0, true, .cells 138 (tkC 0 0 [] false k 0)⟩, ⟨0, true, .cells 138 (tkC 0 0 [] false 0 0)⟩, ⟨0, true, .cells 5 (bytesAV x.2)⟩]) (fun x => s.length - x.1) (k + 1, []) ⟨by simp, by simp; omega, by simp, ?_⟩ ((Wk.ghost 6 1 5 rfl).trans (Wk.slots rfl ⟨rfl, rfl, rfl, rfl, rfl⟩)) ?_
  · cases digsL (s.drop (k + 1)) <;> simp [Except.map]
  rintro ⟨at_, ds⟩ ⟨h1, h2, h3, h4⟩
  simp only at h1 h2 h3 h4
  dsimp only
  conv => whnf
  refine ⟨by omega, ?_⟩
  conv => whnf
  split
  · rename_i hlt
    have hlt : at_ < s.length := by simpa using hlt
    have hg := getD_at s at_ hlt
    have hd := List.drop_eq_getElem_cons hlt
    rw [hd] at h4
    have hnx : ∀ (b : List UInt8), digsL (s[at_] :: s.drop (at_ + 1)) = (digsL (s.drop (at_ + 1))).map (fun x => (b ++ x.1, 1 + x.2)) → b.length ≤ 1 →
        ((k < at_ + 1 ∧ at_ + 1 ≤ s.length ∧ (ds ++ b).length ≤ at_ + 1 ∧ digsL (s.drop (k + 1)) = (digsL (s.drop (at_ + 1))).map fun y => ((ds ++ b) ++ y.1, at_ + 1 - (k + 1) + y.2)) ∧ s.length - (at_ + 1) < s.length - at_) := by
      intro b he hb
      refine ⟨⟨by omega, by omega, by simp; omega, ?_⟩, by omega⟩
      rw [h4, he]
      cases digsL (s.drop (at_ + 1)) with
      | error e => rfl
      | ok y =>
        simp only [Except.map, List.append_assoc]
        congr 2
        omega
    generalize hc : s[at_] = c at *
    conv => whnf
    refine ⟨by omega, ?_⟩
    rw [hg]
    conv => whnf
    refine CallG.e (digit hE c) ?_
    cases hx : hexN c with
    | some v =>
      conv => whnf
      refine ⟨⟨rfl, rfl, rfl, by simp [bytesAV_length], by decide, by simp; omega⟩, ?_⟩
      conv => whnf
      refine ⟨by unfold inI64; omega, ?_⟩
      conv => whnf
      refine ⟨(at_ + 1, ds ++ [v]), hnx [v] (by simp [digsL, hx]) (by simp), ?_⟩
      refine Wk.ver 3 1 (k := .cells 5 (bytesAV (ds ++ [v]))) rfl ?_ rfl ?_ rfl ?_
      · refine congrArg (fun z => some (Blk.mk 1 true (.cells 5 z))) ?_
        rw [List.drop_zero, Nat.mul_one, bytesAV_take, bytesAV_append]
        rfl
      · refine ⟨⟨_, rfl, .inl ⟨rfl, rfl⟩⟩, ⟨_, rfl, .inl ⟨rfl, rfl⟩⟩, ⟨_, rfl, .inl ⟨rfl, rfl⟩⟩, ⟨_, rfl, .inr ⟨0, (ds ++ [v]).length, 1, ?_, rfl⟩⟩, ⟨_, rfl, .inl ⟨rfl, rfl⟩⟩, trivial⟩
        rw [List.length_append]; rfl
      · simp [nhH, nhB, nhL_bytes, nhL, nh, tkC]
    | none =>
      conv => whnf
      refine ⟨by omega, ?_⟩
      rw [hg]
      conv => whnf
      split
      · rename_i h62
        have h62 : c = 62 := by simpa [zEq] using h62
        conv => whnf
        refine ⟨⟨rfl, rfl, rfl, by simp [bytesAV_length], by decide, by simp; omega⟩, ?_⟩
        conv => whnf
        refine ⟨by unfold inI64; omega, ?_⟩
        conv => whnf
        refine LoopG.w (fun x : Nat × List UInt8 => x.1 % 2 = 1 ∧ x.1 ≤ ds.length + 2 ∧ x.2.length ≤ x.1 ∧ pairL ds = x.2 ++ pairL (ds.drop (x.1 - 1))) 77
          (fun x => [(0, .str s), (3, .ptr 1 0 0), (4, .ptr 2 0 0), (6, .own 3 0 0 (ds.length + 1) 1), (10, .int .i64 x.1)])
          (fun x => [⟨0, true, .frame l⟩, ⟨0, true, .cells 138 (tkC 3 0 x.2 false k (at_ + 1))⟩, ⟨0, true, .cells 138 (tkC 0 0 [] false 0 0)⟩, ⟨0, true, .cells 5 (bytesAV (ds ++ [0]))⟩]) (fun x => ds.length + 2 - x.1) (1, []) ⟨by simp, by simp, by simp, by simp⟩ ?_ ?_
        · refine Wk.ver 3 1 (k := .cells 5 (bytesAV (ds ++ [0]))) rfl ?_ rfl ?_ rfl ?_
          · refine congrArg (fun z => some (Blk.mk 1 true (.cells 5 z))) ?_
            rw [List.drop_zero, Nat.mul_one, bytesAV_take, bytesAV_append]
            rfl
          · exact ⟨⟨_, rfl, .inl ⟨rfl, rfl⟩⟩, ⟨_, rfl, .inl ⟨rfl, rfl⟩⟩, ⟨_, rfl, .inl ⟨rfl, rfl⟩⟩, ⟨_, rfl, .inr ⟨0, ds.length + 1, 1, rfl, rfl⟩⟩, ⟨_, rfl, .inl ⟨rfl, rfl⟩⟩, trivial⟩
          · simp [nhH, nhB, nhL_bytes, nhL, nh, tkC]
        rintro ⟨j, bs⟩ ⟨g1, g2, g3, g4⟩
        simp only at g1 g2 g3 g4
        dsimp only
        conv => whnf
        refine ⟨by omega, ?_⟩
        conv => whnf
        split
        · rename_i hj
          have hj : j < ds.length + 1 := by simp at hj; omega
          conv => whnf
          refine ⟨by unfold inI64; omega, ?_⟩
          conv => whnf
          refine ⟨⟨by omega, by omega, rfl⟩, ?_⟩
          conv => whnf
          rw [load_u8 (l := ds ++ [0]) (t := 5) (i := 3) (ver := 0) (off := 0 + ((j : Int) - 1).toNat * 1) (j - 1) (by simp; omega) ?_ ?_ (by omega)]
          rotate_left
          · rfl
          · rfl
          conv => whnf
          refine ⟨by decide, ?_⟩
          rw [shl4_u8]
          conv => whnf
          refine ⟨⟨by omega, by omega, rfl⟩, ?_⟩
          conv => whnf
          rw [load_u8 (l := ds ++ [0]) (t := 5) (i := 3) (ver := 0) (off := 0 + (j : Int).toNat * 1) j (by simp; omega) ?_ ?_ (by omega)]
          rotate_left
          · rfl
          · rfl
          conv => whnf
          rw [or_u8]
          conv => whnf
          have hpair : pairL (ds.drop (j - 1)) = ((ds ++ [0])[j - 1]'(by simp; omega) <<< 4 ||| (ds ++ [0])[j]'(by simp; omega)) :: pairL (ds.drop (j + 1)) := by
            have hd1 := List.drop_eq_getElem_cons (show j - 1 < ds.length by omega)
            rw [hd1, List.getElem_append_left (by omega)]
            have e1 : j - 1 + 1 = j := by omega
            rw [e1]
            by_cases hjl : j < ds.length
            · have hd2 := List.drop_eq_getElem_cons hjl
              rw [hd2, List.getElem_append_left hjl]
              rfl
            · have : j = ds.length := by omega
              subst this
              rw [List.drop_eq_nil_of_le (Nat.le_refl _), List.drop_eq_nil_of_le (by omega)]
              simp [pairL]
          generalize ((ds ++ [0])[j - 1]'(by simp; omega) <<< 4 ||| (ds ++ [0])[j]'(by simp; omega)) = v at hpair ⊢
          have ev : [[AV.int .u8 (v.toNat : Int)]].flatten = bytesAV [v] := rfl
          rw [ev, unAV_bytes]
          refine ⟨⟨rfl, rfl⟩, ?_⟩
          conv => whnf
          refine ⟨by simp; omega, ?_⟩
          conv => whnf
          refine ⟨by unfold inI64; omega, ?_⟩
          conv => whnf
          refine ⟨(j + 2, bs ++ [v]), ⟨⟨by simp; omega, by simp; omega, by simp; omega, ?_⟩, by simp; omega⟩, Wk.slots rfl ⟨rfl, rfl, rfl, rfl, rfl⟩⟩
          have : j + 2 - 1 = j + 1 := by omega
          simp only [this]
          rw [g4, hpair]
          simp
        · rename_i hj
          have hj : ds.length + 1 ≤ j := by simp at hj; omega
          conv => whnf
          refine RetG.drop rfl rfl rfl ⟨rfl, ?_, rfl⟩
          rw [h4]
          have hp : pairL ds = bs := by rw [g4, List.drop_eq_nil_of_le (by omega)]; simp [pairL]
          have hdg : digsL (c :: s.drop (at_ + 1)) = .ok ([], 1) := by rw [digsL, hx]; simp [h62]
          rw [hdg]
          simp only [Except.map, digAVs]
          rw [List.append_nil, hp]
          have : ((at_ : Int) + 1) = ((k + 1 + (at_ - (k + 1) + 1) : Nat) : Int) := by omega
          show AV.tup [tk 3 0 bs false k ((at_ : Int) + 1), _] = _
          rw [this]
          rfl
      · rename_i h62
        have h62 : c ≠ 62 := by simpa [zEq] using h62
        conv => whnf
        refine ⟨by omega, ?_⟩
        rw [hg]
        conv => whnf
        refine CallG.e (white hE c) ?_
        cases hw : isWhite c with
        | true =>
          conv => whnf
          refine ⟨by unfold inI64; omega, ?_⟩
          conv => whnf
          have hq := hnx [] (by simp [digsL, hx, h62, hw]) (by simp)
          rw [List.append_nil] at hq
          exact ⟨(at_ + 1, ds), hq, Wk.slots rfl ⟨rfl, rfl, rfl, rfl, rfl⟩⟩
        | false =>
          conv => whnf
          refine RetG.drop rfl rfl rfl ⟨rfl, ?_, rfl⟩
          rw [h4]
          simp [digsL, hx, h62, hw, Except.map]
          rfl
  · rename_i hlt
    have hlt : s.length ≤ at_ := by simpa using hlt
    conv => whnf
    refine RetG.drop rfl rfl rfl ⟨rfl, ?_, rfl⟩
    rw [h4, List.drop_eq_nil_of_le hlt]
    rfl
end Ink.D

namespace Ink.D
open Go Go.Proofs
set_option maxRecDepth 100000
variable {E : Env} (hE : E.P = Tryz.prog)

include hE
omit hE in
def isDig (c : UInt8) : Bool := decide (48 ≤ c.toNat) && decide (c.toNat ≤ 57)

end Ink.D

namespace Ink.D
open Go Go.Proofs
set_option maxRecDepth 100000
variable {E : Env} (hE : E.P = Tryz.prog)

def mayF (f : Int) : Bool := decide (-2147483648 ≤ f) && decide (f ≤ 2147483648)
def told (f : Int) : Int × Int := if mayF f then (f, 0) else (0, 2)
def fxAV (x : Int × Int) : AV := .tup [.int .i64 x.1, .int .i64 x.2]

theorem getD_map1 {α : Type} (fs : List α) (g : α → List AV) (k : Nat) (h : k < fs.length) : (fs.map g).getD (k : Int).toNat [] = g fs[k] := by
  simp [h]

theorem hbLL_map1 (fs : List Int) : hbLL 0 (fs.map fun f => [.int .i64 f]) = true := by
  rw [hbLL_iff]
  intro x hx y hy
  obtain ⟨f, _, rfl⟩ := List.mem_map.mp hx
  simp at hy; subst hy; rfl

include hE
theorem sane (fs : List Int) (hs : fs.length < big) : PCalls E 117 [.imm 1 (fs.map fun f => [.int .i64 f])] (· = .bool (fs.all mayF)) := by
  unfold big at hs
  have hl : (fs.map fun f => [AV.int .i64 f]).length = fs.length := by simp
  refine p117 hE (fun l => ?_) (by simp only [hbL, hb, hbLL_map1, Bool.and_true])
  conv => whnf
  repeat' (first
    | (refine And.intro ?_ ?_; (focus (first | omega | decide | (unfold inI64; omega) | (simp only [List.length_append, List.length_cons, List.length_nil] <;> omega) | (refine ⟨?_, ?_⟩ <;> omega) | (simp <;> omega))); conv => whnf)
    | (refine brD (fun _ => ?_) (fun _ => ?_) <;> conv => whnf)
    | (refine brB (fun _ => ?_) (fun _ => ?_) <;> conv => whnf))
  refine LoopG.s (fun x : Nat => x ≤ fs.length ∧ (fs.take x).all mayF = true) 18 (fun x => [(0, .imm 1 (fs.map fun f => [.int .i64 f])), (2, .bool false), (5, .imm 1 (fs.map fun f => [.int .i64 f])), (6, .int .i64 fs.length), (7, .int .i64 x)]) (fun _ => frm l) (fun x => fs.length - x) 0 ⟨by simp, by simp⟩ rfl ⟨rfl, rfl, rfl, by rw [← hl]; rfl, rfl⟩ rfl ?_
  rintro x ⟨h1, h2⟩
  conv => whnf
  repeat' (first
    | (refine And.intro ?_ ?_; (focus (first | omega | decide | (unfold inI64; omega) | (simp only [List.length_append, List.length_cons, List.length_nil] <;> omega) | (refine ⟨?_, ?_⟩ <;> omega) | (simp <;> omega))); conv => whnf)
    | (refine brD (fun _ => ?_) (fun _ => ?_) <;> conv => whnf)
    | (refine brB (fun _ => ?_) (fun _ => ?_) <;> conv => whnf))
  · rename_i h3
    rw [getD_map1 _ _ _ (by omega)]
    have hx : x < fs.length := by omega
    have hall : fs.all mayF = true → mayF fs[x] = true := fun h => List.all_eq_true.mp h _ (List.getElem_mem hx)
    have hn : mayF fs[x] = true → (fs.take (x + 1)).all mayF = true := fun h => by
      rw [List.take_succ_eq_append_getElem hx, List.all_append, h2]; simp [h]
    generalize fs[x] = f at *
    conv => whnf
    repeat' (first
      | (refine And.intro ?_ ?_; (focus (first | omega | decide | (unfold inI64; omega) | (simp only [List.length_append, List.length_cons, List.length_nil] <;> omega) | (refine ⟨?_, ?_⟩ <;> omega) | (simp <;> omega))); conv => whnf)
      | (refine brD (fun _ => ?_) (fun _ => ?_) <;> conv => whnf)
      | (refine brB (fun _ => ?_) (fun _ => ?_) <;> conv => whnf))
    · refine RetG.q ⟨rfl, ?_, rfl⟩
      cases hq : fs.all mayF with
      | false => rfl
      | true => have := hall hq; simp only [mayF, Bool.and_eq_true, decide_eq_true_eq] at this; omega
    · refine RetG.q ⟨rfl, ?_, rfl⟩
      cases hq : fs.all mayF with
      | false => rfl
      | true => have := hall hq; simp only [mayF, Bool.and_eq_true, decide_eq_true_eq] at this; omega
    · exact ⟨x + 1, ⟨⟨by omega, hn (by simp only [mayF, Bool.and_eq_true, decide_eq_true_eq]; omega)⟩, by omega⟩, Wk.slots rfl ⟨rfl, rfl, rfl, rfl, rfl⟩⟩
  · have : x = fs.length := by omega
    subst this
    refine RetG.q ⟨rfl, ?_, rfl⟩
    rw [List.take_length] at h2
    rw [h2]

theorem told_ (f : Int) : PCalls E 176 [.int .i64 f] (· = fxAV (told f)) := by
  refine p176 hE fun l => ?_
  conv => whnf
  repeat' (first
    | (refine And.intro ?_ ?_; (focus (first | omega | decide | (unfold inI64; omega) | (simp only [List.length_append, List.length_cons, List.length_nil] <;> omega) | (refine ⟨?_, ?_⟩ <;> omega) | (simp <;> omega))); conv => whnf)
    | (refine brD (fun _ => ?_) (fun _ => ?_) <;> conv => whnf)
    | (refine brB (fun _ => ?_) (fun _ => ?_) <;> conv => whnf)
    | (refine CallG.e (sane hE [f] (by unfold big; simp)) ?_; conv => whnf))
  all_goals
    rename_i h
    simp only [List.all_cons, List.all_nil, Bool.and_true] at h
    refine RetG.q ⟨rfl, ?_, rfl⟩
    simp_all [told]
    rfl

theorem cutPrefix139 (s t : List UInt8) (hs : s.length < big) (ht : t.length < big) : PCalls E 215 [.str s, .str t] (· = .tup [.str (if t.isPrefixOf s then s.drop t.length else s), .bool (t.isPrefixOf s)]) := by
  have hl : t.isPrefixOf s = true → t.length ≤ s.length := fun h => (List.isPrefixOf_iff_prefix.mp h).length_le
  have hs' := hs; have ht' := ht
  unfold big at hs ht
  refine p215 hE fun l => ?_
  conv => whnf
  repeat' (first
    | (refine And.intro ?_ ?_; (focus (first | omega | decide | (unfold inI64; omega) | (simp only [List.length_append, List.length_cons, List.length_nil] <;> omega) | (refine ⟨?_, ?_⟩ <;> omega) | (simp <;> omega))); conv => whnf)
    | (refine brD (fun _ => ?_) (fun _ => ?_) <;> conv => whnf)
    | (refine brB (fun _ => ?_) (fun _ => ?_) <;> conv => whnf)
    | (refine CallG.e (hasPrefix98 hE s t hs' ht') ?_; conv => whnf))
  all_goals
    rename_i h
    first | (refine And.intro (by have := hl (by simpa using h); omega) ?_; conv => whnf) | skip
    refine RetG.q ⟨rfl, ?_, rfl⟩
    simp_all

theorem cutPrefix (s t : List UInt8) (hs : s.length < big) (ht : t.length < big) : PCalls E 152 [.str s, .str t] (· = .tup [.str (if t.isPrefixOf s then s.drop t.length else s), .bool (t.isPrefixOf s)]) := by
  refine p152 hE fun l => ?_
  conv => whnf
  repeat' (first
    | (refine And.intro ?_ ?_; (focus (first | omega | decide | (unfold inI64; omega) | (simp only [List.length_append, List.length_cons, List.length_nil] <;> omega) | (refine ⟨?_, ?_⟩ <;> omega) | (simp <;> omega))); conv => whnf)
    | (refine brD (fun _ => ?_) (fun _ => ?_) <;> conv => whnf)
    | (refine brB (fun _ => ?_) (fun _ => ?_) <;> conv => whnf)
    | (refine CallG.e (cutPrefix139 hE s t hs ht) ?_; conv => whnf))
  exact RetG.q ⟨rfl, rfl, rfl⟩

end Ink.D

namespace Ink.D
open Go Go.Proofs
set_option maxRecDepth 100000
variable {E : Env} (hE : E.P = Tryz.prog)

structure Tok where
  kind : Int
  f : Int
  s : List UInt8
  whole : Bool
  from_ : Nat
  to : Nat
  deriving DecidableEq

def Tok.zero : Tok := ⟨0, 0, [], false, 0, 0⟩
include hE
end Ink.D
