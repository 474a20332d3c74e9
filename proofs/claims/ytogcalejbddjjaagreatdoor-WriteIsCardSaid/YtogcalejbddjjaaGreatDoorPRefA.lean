import Derived.Test.YtogcalejbddjjaaGreatDoorPLexC
import Derived.Test.YtogcalejbddjjaaGreatDoorInkD
set_option linter.all false
namespace Ink.D
open Go Go.Proofs
set_option maxRecDepth 100000
variable {E : Env} (hE : E.P = Tryz.prog)

abbrev up16 : List UInt8 := [48, 49, 50, 51, 52, 53, 54, 55, 56, 57, 65, 66, 67, 68, 69, 70]

theorem u8eqI (a b : UInt8) : ((a.toNat : Int) = (b.toNat : Int)) ↔ a = b := by
  constructor
  · intro h; exact UInt8.toNat_inj.mp (by omega)
  · intro h; rw [h]

include hE
end Ink.D

namespace Ink.D
open Go Go.Proofs
set_option maxRecDepth 100000
variable {E : Env} (hE : E.P = Tryz.prog)

include hE
end Ink.D

namespace Ink.D
open Go Go.Proofs
set_option maxRecDepth 100000
variable {E : Env} (hE : E.P = Tryz.prog)

theorem ne_num (c : UInt8) (n : Nat) (hn : n < 256) (h : c ≠ UInt8.ofNat n) : (c.toNat : Int) ≠ n := by
  intro e
  apply h
  have : c.toNat = n := by omega
  refine UInt8.toNat_inj.mp ?_
  rw [UInt8.toNat_ofNat']
  omega

include hE
end Ink.D

namespace Ink.D
open Go Go.Proofs
set_option maxRecDepth 100000
variable {E : Env} (hE : E.P = Tryz.prog)

include hE
end Ink.D

namespace Ink.D
open Go Go.Proofs
set_option maxRecDepth 100000
variable {E : Env} (hE : E.P = Tryz.prog)

include hE
end Ink.D

namespace Ink.D
open Go Go.Proofs
set_option maxRecDepth 100000
variable {E : Env} (hE : E.P = Tryz.prog)

include hE
end Ink.D

namespace Ink.D
open Go Go.Proofs
set_option maxRecDepth 100000
variable {E : Env} (hE : E.P = Tryz.prog)

include hE
end Ink.D

namespace Ink.D
open Go Go.Proofs
set_option maxRecDepth 100000
variable {E : Env} (hE : E.P = Tryz.prog)

abbrev esc5 : List UInt8 := [10, 13, 9, 8, 12]
abbrev let5 : List UInt8 := [110, 114, 116, 98, 102]
abbrev oct8 : List UInt8 := [48, 49, 50, 51, 52, 53, 54, 55]

theorem q_hit (x : Nat) (hx : x < 5) (c : UInt8) (h : esc5.getD x 0 = c) : quoteC c = [92, let5.getD x 0] := by
  subst h
  have : ∀ x, x < 5 → quoteC (esc5.getD x 0) = [92, let5.getD x 0] := by decide +kernel
  exact this x hx

theorem q_miss (c : UInt8) (h : ∀ j, j < 5 → esc5.getD j 0 ≠ c) : quoteC c = if c = 40 ∨ c = 41 ∨ c = 92 then [92, c] else if c.toNat < 32 ∨ 126 < c.toNat then [92, oct8.getD (c >>> 6).toNat 0, oct8.getD ((c >>> 3) &&& 7).toNat 0, oct8.getD (c &&& 7).toNat 0] else [c] := by
  have key : ∀ c : UInt8, (∃ j, j < 5 ∧ esc5.getD j 0 = c) ∨ quoteC c = if c = 40 ∨ c = 41 ∨ c = 92 then [92, c] else if c.toNat < 32 ∨ 126 < c.toNat then [92, oct8.getD (c >>> 6).toNat 0, oct8.getD ((c >>> 3) &&& 7).toNat 0, oct8.getD (c &&& 7).toNat 0] else [c] := by
    intro c
    revert c
    refine u8all ?_
    decide +kernel
  rcases key c with ⟨j, hj, he⟩ | h1
  · exact absurd he (h j hj)
  · exact h1

theorem q64 (c : UInt8) : IntKind.wrap .u8 ((c.toNat : Int).tdiv 64) = ((c >>> 6).toNat : Int) ∧ IntKind.wrap .u8 (((c >>> 6).toNat : Int) + 1) = ((c >>> 6).toNat : Int) + 1 ∧ (c >>> 6).toNat < 8 := by
  revert c
  refine u8all ?_
  decide +kernel
theorem q8 (c : UInt8) : (IntKind.wrap .u8 ((c.toNat : Int).tdiv 8)).tmod 8 = (((c >>> 3) &&& 7).toNat : Int) ∧ IntKind.wrap .u8 ((((c >>> 3) &&& 7).toNat : Int) + 1) = (((c >>> 3) &&& 7).toNat : Int) + 1 ∧ ((c >>> 3) &&& 7).toNat < 8 := by
  revert c
  refine u8all ?_
  decide +kernel
theorem r8 (c : UInt8) : (c.toNat : Int).tmod 8 = ((c &&& 7).toNat : Int) ∧ IntKind.wrap .u8 (((c &&& 7).toNat : Int) + 1) = ((c &&& 7).toNat : Int) + 1 ∧ (c &&& 7).toNat < 8 := by
  revert c
  refine u8all ?_
  decide +kernel

def qS (s : List UInt8) : List UInt8 := 40 :: (s.map quoteC).flatten
theorem qS_len (s : List UInt8) : (qS s).length ≤ 4 * s.length + 1 := by
  have := quoteC_len s
  simp only [qS, List.length_cons]; omega
theorem qS_snoc (s : List UInt8) (x : Nat) (h : x < s.length) : qS (s.take (x + 1)) = qS (s.take x) ++ quoteC s[x] := by
  unfold qS
  rw [List.take_succ_eq_append_getElem h, List.map_append, List.flatten_append]
  simp only [List.map_cons, List.map_nil, List.flatten_cons, List.flatten_nil, List.append_nil]
  rfl

include hE
set_option maxHeartbeats 1000000 in
theorem rquote (s : List UInt8) (hs : s.length < 1000000) : PCalls E 103 [.str s] (· = .str (40 :: (s.map quoteC).flatten ++ [41])) := by
  refine p103 hE fun l => ?_
  conv => whnf
  repeat' (first
    | (refine And.intro W1 ?_; conv => whnf)
    | (refine brD (fun _ => ?_) (fun _ => ?_) <;> first | (exfalso; omega) | (conv => whnf))
    | (refine brB (fun _ => ?_) (fun _ => ?_) <;> conv => whnf))
  refine LoopG.s (fun x : Nat => x ≤ s.length) 96 (fun x => [(0, .str s), (2, .str []), (3, .str (qS (s.take x))), (4, .int .i64 x)]) (fun _ => frm l) (fun x => s.length - x) 0 (by omega) rfl ⟨rfl, rfl, rfl, rfl⟩ rfl ?_
  intro x h1
  have ql := qS_len (s.take x)
  have tl : (s.take x).length = x := by simp; omega
  by_cases hx : x < s.length
  · have hg := getD_at s x hx
    have hsn := qS_snoc s x hx
    have hsl := slice1 s x hx
    have hsg : s.getD x 0 = s[x] := by simp [hx]
    rw [hsg] at hsl
    have hqc : (quoteC s[x]).length ≤ 4 := by
      have := quoteC_len [s[x]]
      simpa using this
    generalize s[x] = c at *
    generalize qS (s.take x) = out at *
    conv => whnf
    repeat' (first
      | (rw [hg]; conv => whnf)
      | (refine And.intro W1 ?_; conv => whnf)
      | (refine brD (fun _ => ?_) (fun _ => ?_) <;> first | (exfalso; omega) | (conv => whnf))
      | (refine brB (fun _ => ?_) (fun _ => ?_) <;> conv => whnf))
    refine LoopG.s (fun k : Nat => k ≤ 5 ∧ ∀ j, j < k → esc5.getD j 0 ≠ c) 96 (fun k => [(0, .str s), (2, .str []), (3, .str out), (4, .int .i64 x), (5, .int .u8 c.toNat), (6, .int .i64 k)]) (fun _ => frm l) (fun k => 5 - k) 0 ⟨by omega, fun j hj => by omega⟩ rfl ⟨rfl, rfl, rfl, rfl, rfl, rfl⟩ rfl ?_
    rintro k ⟨g1, g2⟩
    have ek : ((k : Nat) : Int).toNat = k := Int.toNat_natCast k
    have l5 : esc5.length = 5 := rfl
    have l6 : let5.length = 5 := rfl
    by_cases hk : k < 5
    · by_cases hq : esc5.getD k 0 = c
      · have hit := q_hit k hk c hq
        have hsl5 := slice1 let5 k (by rw [l6]; omega)
        conv => whnf
        repeat' (first
          | (rw [ek, hq]; conv => whnf)
          | (refine And.intro W1 ?_; conv => whnf)
          | (refine brD (fun _ => ?_) (fun _ => ?_) <;> first | (exfalso; omega) | (conv => whnf))
          | (refine brB (fun _ => ?_) (fun _ => ?_) <;> conv => whnf))
        all_goals try contradiction
        refine ⟨x + 1, ⟨by omega, by omega⟩, Wk.slots rfl ⟨rfl, rfl, ?_, rfl⟩⟩
        refine congrArg (fun z => some (AV.str z)) ?_
        rw [hsn, hit, hsl5, List.append_assoc]; rfl
      · have hqn : ¬ ((esc5.getD k 0).toNat : Int) = (c.toNat : Int) := fun h => hq ((u8eqI _ _).mp h)
        conv => whnf
        repeat' (first
          | (rw [ek]; conv => whnf)
          | (refine And.intro W1 ?_; conv => whnf)
          | (refine brD (fun _ => ?_) (fun _ => ?_) <;> first | (exfalso; omega) | (conv => whnf))
          | (refine brB (fun _ => ?_) (fun _ => ?_) <;> conv => whnf))
        all_goals try (exfalso; rename_i a b; exact a hqn)
        refine ⟨k + 1, ⟨⟨by omega, fun j hj => ?_⟩, by omega⟩, Wk.slots rfl ⟨rfl, rfl, rfl, rfl, rfl, rfl⟩⟩
        by_cases hjk : j = k
        · subst hjk; exact hq
        · exact g2 j (by omega)
    · have : k = 5 := by omega
      subst this
      have hm := q_miss c g2
      by_cases hp : c = 40 ∨ c = 41 ∨ c = 92
      · rw [if_pos hp] at hm
        have hpn : (c.toNat : Int) = 40 ∨ (c.toNat : Int) = 41 ∨ (c.toNat : Int) = 92 := by
          rcases hp with h | h | h <;> subst h <;> decide
        conv => whnf
        repeat' (first
          | (refine And.intro W1 ?_; conv => whnf)
          | (refine brD (fun _ => ?_) (fun _ => ?_) <;> first | (exfalso; omega) | (conv => whnf))
          | (refine brB (fun _ => ?_) (fun _ => ?_) <;> conv => whnf))
        all_goals
          refine ⟨x + 1, ⟨by omega, by omega⟩, Wk.slots rfl ⟨rfl, rfl, ?_, rfl⟩⟩
          refine congrArg (fun z => some (AV.str z)) ?_
          rw [hsn, hm, hsl, List.append_assoc]; rfl
      · rw [if_neg hp] at hm
        have hpn : ¬ ((c.toNat : Int) = 40 ∨ (c.toNat : Int) = 41 ∨ (c.toNat : Int) = 92) := by
          rintro (h | h | h)
          · exact hp (.inl (by simpa [zEq] using h))
          · exact hp (.inr (.inl (by simpa [zEq] using h)))
          · exact hp (.inr (.inr (by simpa [zEq] using h)))
        have l8 : oct8.length = 8 := rfl
        by_cases hr : c.toNat < 32 ∨ 126 < c.toNat
        · rw [if_pos hr] at hm
          obtain ⟨a1, a2, a3⟩ := q64 c
          obtain ⟨b1, b2, b3⟩ := q8 c
          obtain ⟨c1, c2, c3⟩ := r8 c
          have s1 := slice1 oct8 _ (by rw [l8]; exact a3)
          have s2 := slice1 oct8 _ (by rw [l8]; exact b3)
          have s3 := slice1 oct8 _ (by rw [l8]; exact c3)
          conv => whnf
          repeat' (first
            | (rw [b1]; conv => whnf)
            | (rw [b2]; conv => whnf)
            | (rw [a1]; conv => whnf)
            | (rw [a2]; conv => whnf)
            | (rw [c1]; conv => whnf)
            | (rw [c2]; conv => whnf)
            | (refine And.intro W1 ?_; conv => whnf)
            | (refine brD (fun _ => ?_) (fun _ => ?_) <;> first | (exfalso; omega) | (conv => whnf))
            | (refine brB (fun _ => ?_) (fun _ => ?_) <;> conv => whnf))
          all_goals
            refine ⟨x + 1, ⟨by omega, by omega⟩, Wk.slots rfl ⟨rfl, rfl, ?_, rfl⟩⟩
            refine congrArg (fun z => some (AV.str z)) ?_
            rw [hsn, hm, s1, s2, s3]; simp
        · rw [if_neg hr] at hm
          conv => whnf
          repeat' (first
            | (refine And.intro W1 ?_; conv => whnf)
            | (refine brD (fun _ => ?_) (fun _ => ?_) <;> first | (exfalso; omega) | (conv => whnf))
            | (refine brB (fun _ => ?_) (fun _ => ?_) <;> conv => whnf))
          all_goals
            refine ⟨x + 1, ⟨by omega, by omega⟩, Wk.slots rfl ⟨rfl, rfl, ?_, rfl⟩⟩
            refine congrArg (fun z => some (AV.str z)) ?_
            rw [hsn, hm, hsl]
  · have : x = s.length := by omega
    subst this
    rw [List.take_length] at ql ⊢
    conv => whnf
    repeat' (first
      | (refine And.intro W1 ?_; conv => whnf)
      | (refine brD (fun _ => ?_) (fun _ => ?_) <;> first | (exfalso; omega) | (conv => whnf))
      | (refine brB (fun _ => ?_) (fun _ => ?_) <;> conv => whnf))
    exact RetG.q ⟨rfl, rfl, rfl⟩

omit hE in
def nS (s : List UInt8) : List UInt8 := 47 :: (s.map nameC).flatten
omit hE in
theorem nS_len (s : List UInt8) : (nS s).length ≤ 3 * s.length + 1 := by
  have := nameC_len s
  simp only [nS, List.length_cons]; omega
omit hE in
theorem nS_snoc (s : List UInt8) (x : Nat) (h : x < s.length) : nS (s.take (x + 1)) = nS (s.take x) ++ nameC s[x] := by
  unfold nS
  rw [List.take_succ_eq_append_getElem h, List.map_append, List.flatten_append]
  simp only [List.map_cons, List.map_nil, List.flatten_cons, List.flatten_nil, List.append_nil]
  rfl
omit hE in
theorem nameC_hex (c : UInt8) (h : plainN c = false) : nameC c = [35, up16.getD (c >>> 4).toNat 0, up16.getD (c &&& 15).toNat 0] := by
  have : nameC c = [35, hexUp (c >>> 4), hexUp (c &&& 15)] := by simp [nameC, h]
  rw [this]; rfl

theorem rnameOf (s : List UInt8) (hs : s.length < 1000000) : PCalls E 102 [.str s] (· = .str (47 :: (s.map nameC).flatten)) := by
  refine p102 hE fun l => ?_
  conv => whnf
  repeat' (first
    | (refine And.intro W1 ?_; conv => whnf)
    | (refine brD (fun _ => ?_) (fun _ => ?_) <;> first | (exfalso; omega) | (conv => whnf))
    | (refine brB (fun _ => ?_) (fun _ => ?_) <;> conv => whnf))
  refine LoopG.s (fun x : Nat => x ≤ s.length) 56 (fun x => [(0, .str s), (2, .str []), (3, .str (nS (s.take x))), (4, .str up16), (5, .int .i64 x)]) (fun _ => frm l) (fun x => s.length - x) 0 (by omega) rfl ⟨rfl, rfl, rfl, rfl, rfl⟩ rfl ?_
  intro x h1
  have ql := nS_len (s.take x)
  have tl : (s.take x).length = x := by simp; omega
  by_cases hx : x < s.length
  · have hg := getD_at s x hx
    have hsn := nS_snoc s x hx
    have hsl := slice1 s x hx
    have hsg : s.getD x 0 = s[x] := by simp [hx]
    rw [hsg] at hsl
    have hR := rregular hE s[x]
    generalize s[x] = c at *
    generalize nS (s.take x) = out at *
    have l16 : up16.length = 16 := rfl
    cases hp : plainN c with
    | true =>
      have hm : nameC c = [c] := by simp [nameC, hp]
      have hf : isReg c = true ∧ c ≠ 35 ∧ 32 < c.toNat ∧ c.toNat ≤ 126 := by
        simpa [plainN, and_assoc] using hp
      obtain ⟨f1, f2, f3, f4⟩ := hf
      have n35 := ne_num c 35 (by decide) f2
      rw [f1] at hR
      conv => whnf
      repeat' (first
        | (rw [hg]; conv => whnf)
        | (refine And.intro W1 ?_; conv => whnf)
        | (refine brD (fun _ => ?_) (fun _ => ?_) <;> first | (exfalso; omega) | (conv => whnf))
        | (refine brB (fun _ => ?_) (fun _ => ?_) <;> conv => whnf)
        | ((first | refine CallG.e hR ?_ | refine CallD.e hR ?_ | refine CallQ.e hR ?_); conv => whnf))
      all_goals
        refine ⟨x + 1, ⟨by omega, by omega⟩, Wk.slots rfl ⟨rfl, rfl, ?_, rfl, rfl⟩⟩
        refine congrArg (fun z => some (AV.str z)) ?_
        rw [hsn, hm, hsl]
    | false =>
      have hm := nameC_hex c hp
      obtain ⟨a1, a2, a3⟩ := quo16 c
      obtain ⟨c1, c2, c3⟩ := rem16 c
      have s1 := slice1 up16 _ (by rw [l16]; exact a3)
      have s2 := slice1 up16 _ (by rw [l16]; exact c3)
      cases hr : isReg c with
      | false =>
        rw [hr] at hR
        conv => whnf
        repeat' (first
          | (rw [hg]; conv => whnf)
          | (rw [a1]; conv => whnf)
          | (rw [a2]; conv => whnf)
          | (rw [c1]; conv => whnf)
          | (rw [c2]; conv => whnf)
          | (refine And.intro W1 ?_; conv => whnf)
          | (refine brD (fun _ => ?_) (fun _ => ?_) <;> first | (exfalso; omega) | (conv => whnf))
          | (refine brB (fun _ => ?_) (fun _ => ?_) <;> conv => whnf)
          | ((first | refine CallG.e hR ?_ | refine CallD.e hR ?_ | refine CallQ.e hR ?_); conv => whnf))
        all_goals
          refine ⟨x + 1, ⟨by omega, by omega⟩, Wk.slots rfl ⟨rfl, rfl, ?_, rfl, rfl⟩⟩
          refine congrArg (fun z => some (AV.str z)) ?_
          rw [hsn, hm, s1, s2]; simp
      | true =>
        rw [hr] at hR
        have hno : ¬ ((c.toNat : Int) ≠ 35 ∧ 33 ≤ (c.toNat : Int) ∧ (c.toNat : Int) ≤ 126) := by
          rintro ⟨q1, q2, q3⟩
          have : plainN c = true := by
            have q1 : c ≠ 35 := fun e => q1 (by subst e; rfl)
            simp [plainN, hr, q1]
            omega
          rw [hp] at this; cases this
        conv => whnf
        repeat' (first
          | (rw [hg]; conv => whnf)
          | (rw [a1]; conv => whnf)
          | (rw [a2]; conv => whnf)
          | (rw [c1]; conv => whnf)
          | (rw [c2]; conv => whnf)
          | (refine And.intro W1 ?_; conv => whnf)
          | (refine brD (fun _ => ?_) (fun _ => ?_) <;> first | (exfalso; omega) | (conv => whnf))
          | (refine brB (fun _ => ?_) (fun _ => ?_) <;> conv => whnf)
          | ((first | refine CallG.e hR ?_ | refine CallD.e hR ?_ | refine CallQ.e hR ?_); conv => whnf))
        all_goals
          refine ⟨x + 1, ⟨by omega, by omega⟩, Wk.slots rfl ⟨rfl, rfl, ?_, rfl, rfl⟩⟩
          refine congrArg (fun z => some (AV.str z)) ?_
          rw [hsn, hm, s1, s2]; simp
  · have : x = s.length := by omega
    subst this
    rw [List.take_length] at ql ⊢
    conv => whnf
    repeat' (first
      | (refine And.intro W1 ?_; conv => whnf)
      | (refine brD (fun _ => ?_) (fun _ => ?_) <;> first | (exfalso; omega) | (conv => whnf))
      | (refine brB (fun _ => ?_) (fun _ => ?_) <;> conv => whnf))
    exact RetG.q ⟨rfl, rfl, rfl⟩
end Ink.D
