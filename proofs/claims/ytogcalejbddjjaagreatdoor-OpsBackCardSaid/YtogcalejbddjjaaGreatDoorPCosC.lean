import Derived.Test.YtogcalejbddjjaaGreatDoorPCosB
import Derived.KernelRfl
set_option linter.all false
namespace Ink.D
open Go Go.Proofs
set_option maxRecDepth 100000

theorem nextL_at {s : List UInt8} {p : Nat} {R : List UInt8} (h : s.drop p = R) (hp : p ≤ s.length) : nextL s p = if skip R false = R.length then (⟨0, 0, [], false, p + skip R false, p + skip R false⟩, 0) else
    if (tokL (R.drop (skip R false)) (p + skip R false)).2 = 0 then tokL (R.drop (skip R false)) (p + skip R false) else (.zero, (tokL (R.drop (skip R false)) (p + skip R false)).2) := by
  have hl : s.length = p + R.length := by rw [← h, List.length_drop]; omega
  unfold nextL
  rw [if_neg (by omega)]
  have e : spaceL s ((p : Int).toNat) = p + skip R false := by rw [Int.toNat_natCast]; unfold spaceL; rw [h]
  dsimp only
  rw [e, ← List.drop_drop, h]
  by_cases hs : skip R false = R.length
  · rw [if_pos (by omega), if_pos hs]
  · rw [if_neg (by omega), if_neg hs]

theorem drop_le {s R : List UInt8} {p : Nat} (h : s.drop p = R) (hR : R ≠ []) : p ≤ s.length := by
  rcases Nat.lt_or_ge s.length p with h1 | h1
  · rw [List.drop_eq_nil_of_le (by omega)] at h; exact absurd h.symm hR
  · exact h1

theorem drop_more {s A B : List UInt8} {p : Nat} (h : s.drop p = A ++ B) : s.drop (p + A.length) = B := by
  rw [← List.drop_drop, h, List.drop_left]

variable {s R : List UInt8} {p : Nat}

theorem nx_open (h : s.drop p = 91 :: R) : nextL s p = (⟨4, 0, [], false, p, p + 1⟩, 0) := by
  rw [nextL_at h (drop_le h (by simp))]; rfl
theorem nx_close (h : s.drop p = 93 :: R) : nextL s p = (⟨5, 0, [], false, p, p + 1⟩, 0) := by
  rw [nextL_at h (drop_le h (by simp))]; rfl
theorem nx_dopen (h : s.drop p = 60 :: 60 :: R) : nextL s p = (⟨6, 0, [], false, p, p + 2⟩, 0) := by
  rw [nextL_at h (drop_le h (by simp))]; rfl
theorem nx_dclose (h : s.drop p = 62 :: 62 :: R) : nextL s p = (⟨7, 0, [], false, p, p + 2⟩, 0) := by
  rw [nextL_at h (drop_le h (by simp))]; rfl
theorem nx_end (h : s.drop p = []) (hp : p ≤ s.length) : nextL s p = (⟨0, 0, [], false, p, p⟩, 0) := by
  rw [nextL_at h hp]; rfl
theorem nx_space (h : s.drop p = 32 :: R) : nextL s p = nextL s ((p + 1 : Nat) : Int) := by
  have h2 : s.drop (p + 1) = R := drop_more (A := [32]) h
  have hp := drop_le h (by simp)
  have hl : s.length = p + (R.length + 1) := by
    have := congrArg List.length h
    simp at this; omega
  rw [nextL_at h hp, nextL_at h2 (by omega)]
  have e : skip (32 :: R) false = 1 + skip R false := rfl
  rw [e]
  have e2 : (32 :: R).drop (1 + skip R false) = R.drop (skip R false) := by rw [Nat.add_comm, List.drop_succ_cons]
  rw [e2, ← Nat.add_assoc]
  by_cases hs : skip R false = R.length
  · rw [if_pos (by simp; omega), if_pos hs]
  · rw [if_neg (by simp; omega), if_neg hs]
end Ink.D

namespace Ink.D
open Go Go.Proofs
set_option maxRecDepth 100000

section
variable (f : Tok → Int → PR) (s : List UInt8) (p : Int) (n : Nat)

theorem arr_end (o : Ob) (t_ : Nat) (acc : List Ob) (fr : Nat) (h : nextL s p = (⟨5, 0, [], false, fr, t_⟩, 0)) : arrL f s (n + 1) p acc = (Ob.mk 5 0 0 [] acc [], (t_ : Int), 0) := by
  rw [arrL, h]; rfl

theorem dic_end (t_ : Nat) (d : List (List UInt8 × Ob)) (fr : Nat) (h : nextL s p = (⟨7, 0, [], false, fr, t_⟩, 0)) : dicL f s (n + 1) p d = (Ob.mk 6 0 0 [] [] d, (t_ : Int), 0) := by
  rw [dicL, h]; rfl

theorem dic_step (d : List (List UInt8 × Ob)) (fr t_ : Nat) (key : List UInt8) (o : Ob) (q : Int) (h : nextL s p = (⟨2, 0, key, false, fr, t_⟩, 0)) (he : objR f s t_ = (o, q, 0)) : dicL f s (n + 2) p d = dicL f s (n + 1) q (setD d key o) := by
  rw [dicL, h, if_neg (by simp), if_neg (by simp), if_neg (by simp), if_neg (by simp), if_neg (by simp), he]
  simp

theorem objR_next (q : Int) (h : nextL s p = nextL s q) : (objR f s p).2.2 = (objR f s q).2.2 ∧ ((objR f s q).2.2 = 0 → objR f s p = objR f s q) := by
  unfold objR
  rw [h]
  split
  · rename_i h1
    exact ⟨rfl, fun h2 => absurd h2 h1⟩
  · exact ⟨rfl, fun _ => rfl⟩
end

section
variable {s R : List UInt8} {p : Nat}

theorem ofL_succ (s : List UInt8) (r : Nat) (t : Tok) (a : Int) : ofL s (r + 1) t a = ofB s (fun a => arrL (ofL s r) s 1025 a []) (fun a => dicL (ofL s r) s 1025 a []) t a := by rw [ofL]
theorem ofL_zero (s : List UInt8) (t : Tok) (a : Int) : ofL s 0 t a = ofB s (fun a => (ob00, a, 5)) (fun a => (ob00, a, 5)) t a := by rw [ofL]
theorem ofB4 (s : List UInt8) (A D : Int → PR) (fr t_ : Nat) (a : Int) : ofB s A D ⟨4, 0, [], false, fr, t_⟩ a = A a := by
  unfold ofB; rw [if_neg (by simp), if_neg (by simp), if_neg (by simp), if_neg (by simp), if_pos rfl]
theorem ofB6 (s : List UInt8) (A D : Int → PR) (fr t_ : Nat) (a : Int) : ofB s A D ⟨6, 0, [], false, fr, t_⟩ a = D a := by
  unfold ofB; rw [if_neg (by simp), if_neg (by simp), if_neg (by simp), if_neg (by simp), if_neg (by simp), if_pos rfl]
theorem obj_arr (r : Nat) (h : s.drop p = 91 :: R) : objR (ofL s (r + 1)) s p = arrL (ofL s r) s 1025 ((p + 1 : Nat) : Int) [] := by
  unfold objR; rw [nx_open h, if_neg (by simp), ofL_succ, ofB4]
theorem obj_dic (r : Nat) (h : s.drop p = 60 :: 60 :: R) : objR (ofL s (r + 1)) s p = dicL (ofL s r) s 1025 ((p + 2 : Nat) : Int) [] := by
  unfold objR; rw [nx_dopen h, if_neg (by simp), ofL_succ, ofB6]

end
end Ink.D

namespace Ink.D
open Go Go.Proofs
set_option maxRecDepth 100000
variable {s : List UInt8}

end Ink.D

namespace Ink.D
open Go Go.Proofs
set_option maxRecDepth 100000
variable {E : Env} (hE : E.P = Tryz.prog)

include hE
end Ink.D
