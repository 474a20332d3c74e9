import Derived.Test.YtipdgghfkdlfmaaDoorPCosB
import Derived.KernelRfl
set_option linter.all false
namespace Ink.D
open Go Go.Proofs
set_option maxRecDepth 100000
set_option linter.unusedSimpArgs false
set_option linter.unusedVariables false
variable {E : Env} (hE : E.P = Tryd.prog)

abbrev awT1 : List UInt8 := [91, 49, 32, 48, 32, 82, 32, 47, 65, 93]
abbrev awT2 : List UInt8 := [60, 60, 47, 65, 32, 110, 117, 108, 108, 62, 62]
abbrev awO1 : Ob := .mk 5 0 0 [] [.mk 7 1 0 [] [] [], .mk 3 0 0 [65] [] []] []
abbrev awO2 : Ob := .mk 6 0 0 [] [] []

theorem awP1 : parseR awT1 0 = (awO1, 10, 0) := by kernel_rfl
theorem awP2 : parseR awT2 0 = (awO2, 11, 0) := by kernel_rfl
theorem awI : intO 3 = .mk 2 1 3000 [] [] [] := by kernel_rfl
theorem awS : setL awO2 [120] (.mk 2 1 3000 [] [] []) = .mk 6 0 0 [] [] [([120], .mk 2 1 3000 [] [] [])] := by kernel_rfl
theorem awG : getL (.mk 6 0 0 [] [] [([120], .mk 2 1 3000 [] [] [])]) [120] = .mk 2 1 3000 [] [] [] := by kernel_rfl
theorem awC : countO awO1 = 3 := by kernel_rfl
theorem awE : sameO awO1 awO1 = true := by kernel_rfl

include hE
theorem awake30 : PCalls E 30 [] (· = .bool true) := by
  have h1 := parse31 hE awT1 0 (by decide)
  have h2 := parse31 hE awT2 0 (by decide)
  rw [awP1] at h1
  rw [awP2] at h2
  have h3 := int34 hE 3
  rw [awI] at h3
  have h4 := set hE awO2 [120] (.mk 2 1 3000 [] [] []) (fun k n f s l d h => by cases h; decide)
  rw [awS] at h4
  have h5 := get35 hE 6 0 0 [] [] [([120], .mk 2 1 3000 [] [] [])] [120] (by decide)
  rw [awG] at h5
  have h6 := count32 hE _ awO1 (Nat.lt_succ_self _) (by rw [awC]; decide)
  rw [awC] at h6
  have h7 := same50 hE _ awO1 awO1 (Nat.lt_succ_self _) (by rw [awC]; decide) (by rw [awC]; decide)
  rw [awE] at h7
  refine p30 hE fun l => ?_
  unfold obC at h1 h2 h3 h4 h5 h6 h7
  conv => whnf
  repeat' (first
    | (refine And.intro ?_ ?_; (focus (first | omega | decide | (unfold inI64; omega) | (simp only [List.length_append, List.length_cons, List.length_nil] <;> omega) | (refine ⟨?_, ?_⟩ <;> omega) | (refine ⟨?_, ?_, ?_, ?_, ?_, ?_⟩ <;> first | rfl | trivial | decide | omega | (simp [bytesAV_length] <;> omega)) | (simp <;> omega) | (unfold inI64; simp only [List.length_append, List.length_cons, List.length_nil] <;> omega))); conv => whnf)
    | (refine brD (fun _ => ?_) (fun _ => ?_) <;> first | (exfalso; omega) | (conv => whnf))
    | (refine brB (fun _ => ?_) (fun _ => ?_) <;> conv => whnf)
    | ((first | refine CallG.e (h1) ?_ | refine CallD.e (h1) ?_ | refine CallQ.e (h1) ?_ | refine CallP.e (h1) ?_); conv => whnf)
    | ((first | refine CallG.e (h2) ?_ | refine CallD.e (h2) ?_ | refine CallQ.e (h2) ?_ | refine CallP.e (h2) ?_); conv => whnf)
    | ((first | refine CallG.e (h3) ?_ | refine CallD.e (h3) ?_ | refine CallQ.e (h3) ?_ | refine CallP.e (h3) ?_); conv => whnf)
    | ((first | refine CallG.e (h4) ?_ | refine CallD.e (h4) ?_ | refine CallQ.e (h4) ?_ | refine CallP.e (h4) ?_); conv => whnf)
    | ((first | refine CallG.e (h5) ?_ | refine CallD.e (h5) ?_ | refine CallQ.e (h5) ?_ | refine CallP.e (h5) ?_); conv => whnf)
    | ((first | refine CallG.e (h6) ?_ | refine CallD.e (h6) ?_ | refine CallQ.e (h6) ?_ | refine CallP.e (h6) ?_); conv => whnf)
    | ((first | refine CallG.e (h7) ?_ | refine CallD.e (h7) ?_ | refine CallQ.e (h7) ?_ | refine CallP.e (h7) ?_); conv => whnf))
  exact RetG.drop rfl rfl rfl ⟨rfl, rfl, rfl⟩
end Ink.D

namespace Ink.D
open Go Go.Proofs
set_option maxRecDepth 100000
set_option linter.unusedSimpArgs false
set_option linter.unusedVariables false

/-- so many brackets about a 7 -/
def nestT (b : Bool) : Nat → List UInt8
  | 0 => [55]
  | k + 1 => if b then [60, 60, 47, 65, 32] ++ (nestT b k ++ [62, 62]) else [91] ++ (nestT b k ++ [93])

def nestO (b : Bool) : Nat → Ob
  | 0 => .mk 2 1 7000 [] [] []
  | k + 1 => if b then .mk 6 0 0 [] [] [([65], nestO b k)] else .mk 5 0 0 [] [nestO b k] []

theorem nextL_at {s : List UInt8} {p : Nat} {R : List UInt8} (h : s.drop p = R) (hp : p ≤ s.length) : nextL s p = if skip R false = R.length then (⟨0, 0, [], false, p + skip R false, p + skip R false⟩, 0) else
    if (tokL (R.drop (skip R false)) (p + skip R false)).2 = 0 then tokL (R.drop (skip R false)) (p + skip R false) else (.zero, (tokL (R.drop (skip R false)) (p + skip R false)).2) := by
  have hl : s.length = p + R.length := by rw [← h, List.length_drop]; omega
  unfold nextL
  rw [if_neg (by omega)]
  have e : spaceL s ((p : Int).toNat) = p + skip R false := by rw [Int.toNat_natCast]; unfold spaceL; rw [h]
  dsimp only
  rw [e, ← List.drop_drop, h]
  by_cases hs : skip R false = R.length
  · rw [if_pos (by omega), if_pos hs]
  · rw [if_neg (by omega), if_neg hs]

theorem drop_le {s R : List UInt8} {p : Nat} (h : s.drop p = R) (hR : R ≠ []) : p ≤ s.length := by
  rcases Nat.lt_or_ge s.length p with h1 | h1
  · rw [List.drop_eq_nil_of_le (by omega)] at h; exact absurd h.symm hR
  · exact h1

theorem drop_more {s A B : List UInt8} {p : Nat} (h : s.drop p = A ++ B) : s.drop (p + A.length) = B := by
  rw [← List.drop_drop, h, List.drop_left]

variable {s R : List UInt8} {p : Nat}

theorem nx_open (h : s.drop p = 91 :: R) : nextL s p = (⟨4, 0, [], false, p, p + 1⟩, 0) := by
  rw [nextL_at h (drop_le h (by simp))]; rfl
theorem nx_close (h : s.drop p = 93 :: R) : nextL s p = (⟨5, 0, [], false, p, p + 1⟩, 0) := by
  rw [nextL_at h (drop_le h (by simp))]; rfl
theorem nx_dopen (h : s.drop p = 60 :: 60 :: R) : nextL s p = (⟨6, 0, [], false, p, p + 2⟩, 0) := by
  rw [nextL_at h (drop_le h (by simp))]; rfl
theorem nx_dclose (h : s.drop p = 62 :: 62 :: R) : nextL s p = (⟨7, 0, [], false, p, p + 2⟩, 0) := by
  rw [nextL_at h (drop_le h (by simp))]; rfl
theorem nx_end (h : s.drop p = []) (hp : p ≤ s.length) : nextL s p = (⟨0, 0, [], false, p, p⟩, 0) := by
  rw [nextL_at h hp]; rfl
theorem nx_lt (h : s.drop p = [60]) : (nextL s p).2 = 4 := by
  rw [nextL_at h (drop_le h (by simp))]; kernel_rfl
theorem nx_gt (h : s.drop p = [62]) : (nextL s p).2 = 3 := by
  rw [nextL_at h (drop_le h (by simp))]; kernel_rfl
theorem nx_slash (h : s.drop p = [47]) : nextL s p = (⟨2, 0, [], false, p, p + 1⟩, 0) := by
  rw [nextL_at h (drop_le h (by simp))]; kernel_rfl
theorem nx_name (h : s.drop p = [47, 65]) : nextL s p = (⟨2, 0, [65], false, p, p + 2⟩, 0) := by
  rw [nextL_at h (drop_le h (by simp))]; kernel_rfl
theorem nx_names (h : s.drop p = 47 :: 65 :: 32 :: R) : nextL s p = (⟨2, 0, [65], false, p, p + 2⟩, 0) := by
  rw [nextL_at h (drop_le h (by simp))]; kernel_rfl
theorem nx_seven (h : s.drop p = [55]) : nextL s p = (⟨1, 7000, [], true, p, p + 1⟩, 0) := by
  rw [nextL_at h (drop_le h (by simp))]; kernel_rfl
theorem nx_seven1 (h : s.drop p = 55 :: 93 :: R) : nextL s p = (⟨1, 7000, [], true, p, p + 1⟩, 0) := by
  rw [nextL_at h (drop_le h (by simp))]; kernel_rfl
theorem nx_seven2 (h : s.drop p = 55 :: 62 :: R) : nextL s p = (⟨1, 7000, [], true, p, p + 1⟩, 0) := by
  rw [nextL_at h (drop_le h (by simp))]; kernel_rfl
theorem nx_space (h : s.drop p = 32 :: R) : nextL s p = nextL s ((p + 1 : Nat) : Int) := by
  have h2 : s.drop (p + 1) = R := drop_more (A := [32]) h
  have hp := drop_le h (by simp)
  have hl : s.length = p + (R.length + 1) := by
    have := congrArg List.length h
    simp at this; omega
  rw [nextL_at h hp, nextL_at h2 (by omega)]
  have e : skip (32 :: R) false = 1 + skip R false := rfl
  rw [e]
  have e2 : (32 :: R).drop (1 + skip R false) = R.drop (skip R false) := by rw [Nat.add_comm, List.drop_succ_cons]
  rw [e2, ← Nat.add_assoc]
  by_cases hs : skip R false = R.length
  · rw [if_pos (by simp; omega), if_pos hs]
  · rw [if_neg (by simp; omega), if_neg hs]
end Ink.D

namespace Ink.D
open Go Go.Proofs
set_option maxRecDepth 100000
set_option linter.unusedSimpArgs false
set_option linter.unusedVariables false

section
variable (f : Tok → Int → PR) (s : List UInt8) (p : Int) (n : Nat)

theorem arr_err (hk : (nextL s p).2 ≠ 0 ∨ (nextL s p).1.kind ≠ 5) (he : (objR f s p).2.2 ≠ 0) : (arrL f s (n + 1) p []).2.2 = (objR f s p).2.2 := by
  unfold arrL
  unfold objR at he ⊢
  by_cases h : (nextL s p).2 = 0
  · have h' : ¬ (nextL s p).2 ≠ 0 := by simp [h]
    have hk5 : ¬ (nextL s p).1.kind = 5 := by
      rcases hk with hk | hk
      · exact absurd h hk
      · exact hk
    rw [if_neg h'] at he
    rw [if_neg h', if_neg hk5, if_neg (by simp), if_pos he, if_neg h']
  · rw [if_pos h, if_pos h]

theorem arr_step (o : Ob) (q : Int) (hn : (nextL s p).2 = 0) (hk : (nextL s p).1.kind ≠ 5) (h : objR f s p = (o, q, 0)) : arrL f s (n + 1) p [] = arrL f s n q [o] := by
  rw [arrL]
  unfold objR at h
  rw [if_neg (by simp [hn])] at h
  rw [if_neg (by simp [hn]), if_neg hk, if_neg (by simp), h]
  simp

theorem arr_end (o : Ob) (t_ : Nat) (acc : List Ob) (fr : Nat) (h : nextL s p = (⟨5, 0, [], false, fr, t_⟩, 0)) : arrL f s (n + 1) p acc = (Ob.mk 5 0 0 [] acc [], (t_ : Int), 0) := by
  rw [arrL, h]; rfl

theorem arr_stop (hf : ∀ t a, t.kind = 0 → (f t a).2.2 ≠ 0) (acc : List Ob) (fr t_ : Nat) (h : nextL s p = (⟨0, 0, [], false, fr, t_⟩, 0)) : (arrL f s (n + 1) p acc).2.2 ≠ 0 := by
  rw [arrL, h]
  have := hf ⟨0, 0, [], false, fr, t_⟩ t_ rfl
  rw [if_neg (by simp), if_neg (by simp), if_neg (by simp), if_pos this]
  exact this

theorem dic_end (t_ : Nat) (d : List (List UInt8 × Ob)) (fr : Nat) (h : nextL s p = (⟨7, 0, [], false, fr, t_⟩, 0)) : dicL f s (n + 1) p d = (Ob.mk 6 0 0 [] [] d, (t_ : Int), 0) := by
  rw [dicL, h]; rfl

theorem dic_stop (d : List (List UInt8 × Ob)) (fr t_ : Nat) (h : nextL s p = (⟨0, 0, [], false, fr, t_⟩, 0)) : (dicL f s (n + 1) p d).2.2 ≠ 0 := by
  rw [dicL, h]; simp

theorem dic_bad (d : List (List UInt8 × Ob)) (h : (nextL s p).2 ≠ 0) : (dicL f s (n + 1) p d).2.2 ≠ 0 := by
  rw [dicL, if_pos h]; exact h

theorem dic_err (d : List (List UInt8 × Ob)) (fr t_ : Nat) (key : List UInt8) (h : nextL s p = (⟨2, 0, key, false, fr, t_⟩, 0)) (he : (objR f s t_).2.2 ≠ 0) : (dicL f s (n + 2) p d).2.2 = (objR f s t_).2.2 := by
  rw [dicL, h, if_neg (by simp), if_neg (by simp), if_neg (by simp), if_neg (by simp), if_neg (by simp), if_pos he]

theorem dic_step (d : List (List UInt8 × Ob)) (fr t_ : Nat) (key : List UInt8) (o : Ob) (q : Int) (h : nextL s p = (⟨2, 0, key, false, fr, t_⟩, 0)) (he : objR f s t_ = (o, q, 0)) : dicL f s (n + 2) p d = dicL f s (n + 1) q (setD d key o) := by
  rw [dicL, h, if_neg (by simp), if_neg (by simp), if_neg (by simp), if_neg (by simp), if_neg (by simp), he]
  simp

theorem objR_stop (hf : ∀ t a, t.kind = 0 → (f t a).2.2 ≠ 0) (fr t_ : Nat) (h : nextL s p = (⟨0, 0, [], false, fr, t_⟩, 0)) : (objR f s p).2.2 ≠ 0 := by
  unfold objR; rw [h, if_neg (by simp)]; exact hf _ _ rfl

theorem objR_bad (h : (nextL s p).2 ≠ 0) : (objR f s p).2.2 ≠ 0 := by
  unfold objR; rw [if_pos h]; exact h

theorem objR_next (q : Int) (h : nextL s p = nextL s q) : (objR f s p).2.2 = (objR f s q).2.2 ∧ ((objR f s q).2.2 = 0 → objR f s p = objR f s q) := by
  unfold objR
  rw [h]
  split
  · rename_i h1
    exact ⟨rfl, fun h2 => absurd h2 h1⟩
  · exact ⟨rfl, fun _ => rfl⟩
end

theorem ofL_end (s : List UInt8) (r : Nat) : ∀ t a, t.kind = 0 → (ofL s r t a).2.2 ≠ 0 := by
  intro t a h
  cases r with
  | zero => unfold ofL; rw [ofB_end h]; decide
  | succ r => unfold ofL; rw [ofB_end h]; decide

section
variable {s R : List UInt8} {p : Nat}

theorem ofL_succ (s : List UInt8) (r : Nat) (t : Tok) (a : Int) : ofL s (r + 1) t a = ofB s (fun a => arrL (ofL s r) s 1025 a []) (fun a => dicL (ofL s r) s 1025 a []) t a := by rw [ofL]
theorem ofL_zero (s : List UInt8) (t : Tok) (a : Int) : ofL s 0 t a = ofB s (fun a => (ob00, a, 5)) (fun a => (ob00, a, 5)) t a := by rw [ofL]
theorem ofB4 (s : List UInt8) (A D : Int → PR) (fr t_ : Nat) (a : Int) : ofB s A D ⟨4, 0, [], false, fr, t_⟩ a = A a := by
  unfold ofB; rw [if_neg (by simp), if_neg (by simp), if_neg (by simp), if_neg (by simp), if_pos rfl]
theorem ofB6 (s : List UInt8) (A D : Int → PR) (fr t_ : Nat) (a : Int) : ofB s A D ⟨6, 0, [], false, fr, t_⟩ a = D a := by
  unfold ofB; rw [if_neg (by simp), if_neg (by simp), if_neg (by simp), if_neg (by simp), if_neg (by simp), if_pos rfl]
theorem obj_arr0 (h : s.drop p = 91 :: R) : (objR (ofL s 0) s p).2.2 = 5 := by
  unfold objR; rw [nx_open h, if_neg (by simp), ofL_zero, ofB4]
theorem obj_arr (r : Nat) (h : s.drop p = 91 :: R) : objR (ofL s (r + 1)) s p = arrL (ofL s r) s 1025 ((p + 1 : Nat) : Int) [] := by
  unfold objR; rw [nx_open h, if_neg (by simp), ofL_succ, ofB4]
theorem obj_dic0 (h : s.drop p = 60 :: 60 :: R) : (objR (ofL s 0) s p).2.2 = 5 := by
  unfold objR; rw [nx_dopen h, if_neg (by simp), ofL_zero, ofB6]
theorem obj_dic (r : Nat) (h : s.drop p = 60 :: 60 :: R) : objR (ofL s (r + 1)) s p = dicL (ofL s r) s 1025 ((p + 2 : Nat) : Int) [] := by
  unfold objR; rw [nx_dopen h, if_neg (by simp), ofL_succ, ofB6]

/-- what may stand behind -/
def tailOK (R : List UInt8) : Prop := R = [] ∨ (∃ Q, R = 93 :: Q) ∨ (∃ Q, R = 62 :: 62 :: Q) ∨ R = [62]

theorem tail_whole (hp : p ≤ s.length) (h : s.drop p = R) (hR : tailOK R) : ¬ ((nextL s p).2 = 0 ∧ wholeT (nextL s p).1 = true) := by
  rcases hR with rfl | ⟨Q, rfl⟩ | ⟨Q, rfl⟩ | rfl
  · rw [nx_end h hp]; simp [wholeT]
  · rw [nx_close h]; simp [wholeT]
  · rw [nx_dclose h]; simp [wholeT]
  · rw [nx_gt h]; simp

theorem nx_sevenT (h : s.drop p = 55 :: R) (hR : tailOK R) : nextL s p = (⟨1, 7000, [], true, p, p + 1⟩, 0) := by
  rcases hR with rfl | ⟨Q, rfl⟩ | ⟨Q, rfl⟩ | rfl
  · exact nx_seven h
  · exact nx_seven1 h
  · exact nx_seven2 h
  · exact nx_seven2 h

theorem obj_seven (r : Nat) (h : s.drop p = 55 :: R) (hR : tailOK R) : objR (ofL s r) s p = (.mk 2 1 7000 [] [] [], ((p + 1 : Nat) : Int), 0) := by
  have h2 : s.drop (p + 1) = R := drop_more (A := [55]) h
  have hl : p + 1 ≤ s.length := by
    have := congrArg List.length h
    simp at this; omega
  have hw := tail_whole hl h2 hR
  have e : numO s ⟨1, 7000, [], true, p, p + 1⟩ ((p + 1 : Nat) : Int) = (.mk 2 1 7000 [] [] [], ((p + 1 : Nat) : Int)) := by
    unfold numO
    rw [if_neg (fun h => hw ⟨h.2.1, h.2.2.1⟩)]
    rfl
  unfold objR
  rw [nx_sevenT h hR, if_neg (by simp)]
  cases r with
  | zero => unfold ofL ofB; rw [if_neg (by simp), if_pos rfl]; simp only; rw [e]
  | succ r => unfold ofL ofB; rw [if_neg (by simp), if_pos rfl]; simp only; rw [e]
end
end Ink.D

namespace Ink.D
open Go Go.Proofs
set_option maxRecDepth 100000
set_option linter.unusedSimpArgs false
set_option linter.unusedVariables false
variable {s : List UInt8}

theorem tail93 (R : List UInt8) : tailOK (93 :: R) := .inr (.inl ⟨R, rfl⟩)
theorem tail62 (R : List UInt8) : tailOK (62 :: 62 :: R) := .inr (.inr (.inl ⟨R, rfl⟩))
theorem tailNil : tailOK [] := .inl rfl
theorem tail1 : tailOK [62] := .inr (.inr (.inr rfl))

theorem nest_kind (b : Bool) (k p : Nat) (R : List UInt8) (hR : tailOK R) (h : s.drop p = nestT b k ++ R) : (nextL s p).2 = 0 ∧ (nextL s p).1.kind ≠ 5 := by
  cases k with
  | zero => rw [nx_sevenT h hR]; simp
  | succ k =>
    cases b with
    | false =>
      rw [nx_open (R := nestT false k ++ [93] ++ R) (by rw [h]; simp [nestT])]; simp
    | true =>
      rw [nx_dopen (R := [47, 65, 32] ++ (nestT true k ++ [62, 62]) ++ R) (by rw [h]; simp [nestT])]; simp

theorem setD_nil (key : List UInt8) (v : Ob) (h : v.kind ≠ 0) : setD [] key v = [(key, v)] := by
  unfold setD
  rw [if_neg h, if_pos (show ixK key [] 0 < 0 by simp [ixK])]
  rfl

theorem nestO_kind (b : Bool) (k : Nat) : (nestO b k).kind ≠ 0 := by
  cases k with
  | zero => simp [nestO, Ob.kind]
  | succ k => cases b <;> simp [nestO, Ob.kind]

theorem nest_good (b : Bool) : ∀ (k r p : Nat) (R : List UInt8), k ≤ r → tailOK R → s.drop p = nestT b k ++ R → objR (ofL s r) s p = (nestO b k, ((p + (nestT b k).length : Nat) : Int), 0)
  | 0, r, p, R, _, hR, h => obj_seven r h hR
  | k + 1, 0, p, R, hr, _, _ => by omega
  | k + 1, r + 1, p, R, hr, hR, h => by
    cases b with
    | false =>
      have h1 : s.drop p = 91 :: (nestT false k ++ (93 :: R)) := by rw [h]; simp [nestT]
      have h2 : s.drop (p + 1) = nestT false k ++ (93 :: R) := drop_more (A := [91]) h1
      have h3 : s.drop (p + 1 + (nestT false k).length) = 93 :: R := drop_more h2
      have ih := nest_good false k r (p + 1) _ (by omega) (tail93 R) h2
      obtain ⟨k1, k2⟩ := nest_kind false k (p + 1) _ (tail93 R) h2
      refine (obj_arr r h1).trans ((arr_step _ _ _ 1024 _ _ k1 k2 ih).trans ((arr_end _ _ _ 1023 ob00 _ _ _ (nx_close h3)).trans ?_))
      simp [nestO, nestT]; omega
    | true =>
      have h1 : s.drop p = 60 :: 60 :: 47 :: 65 :: 32 :: (nestT true k ++ (62 :: 62 :: R)) := by rw [h]; simp [nestT]
      have h2 : s.drop (p + 2) = 47 :: 65 :: 32 :: (nestT true k ++ (62 :: 62 :: R)) := drop_more (A := [60, 60]) h1
      have h3 : s.drop (p + 2 + 2) = 32 :: (nestT true k ++ (62 :: 62 :: R)) := drop_more (A := [47, 65]) h2
      have h4 : s.drop (p + 2 + 2 + 1) = nestT true k ++ (62 :: 62 :: R) := drop_more (A := [32]) h3
      have h5 : s.drop (p + 2 + 2 + 1 + (nestT true k).length) = 62 :: 62 :: R := drop_more h4
      have ih := nest_good true k r (p + 2 + 2 + 1) _ (by omega) (tail62 R) h4
      have ih2 := (objR_next (ofL s r) s _ _ (nx_space h3)).2 (by rw [ih])
      rw [ih] at ih2
      refine (obj_dic r h1).trans ((dic_step _ _ _ 1023 [] _ _ [65] _ _ (nx_names h2) ih2).trans ?_)
      rw [setD_nil _ _ (nestO_kind _ _)]
      refine (dic_end _ _ _ 1023 _ _ _ (nx_dclose h5)).trans ?_
      simp [nestO, nestT]; omega

theorem nest_deep (b : Bool) : ∀ (r k p : Nat) (R : List UInt8), r < k → tailOK R → s.drop p = nestT b k ++ R → (objR (ofL s r) s p).2.2 = 5
  | r, 0, p, R, hr, _, _ => by omega
  | 0, k + 1, p, R, hr, hR, h => by
    cases b with
    | false => exact obj_arr0 (R := nestT false k ++ (93 :: R)) (by rw [h]; simp [nestT])
    | true => exact obj_dic0 (R := 47 :: 65 :: 32 :: (nestT true k ++ (62 :: 62 :: R))) (by rw [h]; simp [nestT])
  | r + 1, k + 1, p, R, hr, hR, h => by
    cases b with
    | false =>
      have h1 : s.drop p = 91 :: (nestT false k ++ (93 :: R)) := by rw [h]; simp [nestT]
      have h2 : s.drop (p + 1) = nestT false k ++ (93 :: R) := drop_more (A := [91]) h1
      have ih := nest_deep false r k (p + 1) _ (by omega) (tail93 R) h2
      obtain ⟨k1, k2⟩ := nest_kind false k (p + 1) _ (tail93 R) h2
      rw [obj_arr r h1]
      exact (arr_err _ _ _ 1024 (.inr k2) (by rw [ih]; decide)).trans ih
    | true =>
      have h1 : s.drop p = 60 :: 60 :: 47 :: 65 :: 32 :: (nestT true k ++ (62 :: 62 :: R)) := by rw [h]; simp [nestT]
      have h2 : s.drop (p + 2) = 47 :: 65 :: 32 :: (nestT true k ++ (62 :: 62 :: R)) := drop_more (A := [60, 60]) h1
      have h3 : s.drop (p + 2 + 2) = 32 :: (nestT true k ++ (62 :: 62 :: R)) := drop_more (A := [47, 65]) h2
      have h4 : s.drop (p + 2 + 2 + 1) = nestT true k ++ (62 :: 62 :: R) := drop_more (A := [32]) h3
      have ih := nest_deep true r k (p + 2 + 2 + 1) _ (by omega) (tail62 R) h4
      have ih2 := (objR_next (ofL s r) s _ _ (nx_space h3)).1.trans ih
      rw [obj_dic r h1]
      exact (dic_err _ _ _ 1023 [] _ _ [65] (nx_names h2) (by rw [ih2]; decide)).trans ih2

/-- an object, in any case well told -/
theorem nest_any (b : Bool) (k r p : Nat) (R : List UInt8) (hR : tailOK R) (h : s.drop p = nestT b k ++ R) :
    objR (ofL s r) s p = (nestO b k, ((p + (nestT b k).length : Nat) : Int), 0) ∨ (objR (ofL s r) s p).2.2 ≠ 0 := by
  rcases Nat.lt_or_ge r k with h1 | h1
  · right; rw [nest_deep b r k p R h1 hR h]; decide
  · left; exact nest_good b k r p R h1 hR h

theorem take_app {A B : List UInt8} {c : Nat} (h : c < A.length) : (A ++ B).take c = A.take c := by
  rw [List.take_append_of_le_length (by omega)]

theorem cut_kind (b : Bool) (k p c : Nat) (hc : c < (nestT b k).length) (hp : p ≤ s.length) (h : s.drop p = (nestT b k).take c) : (nextL s p).2 ≠ 0 ∨ (nextL s p).1.kind ≠ 5 := by
  match c, h with
  | 0, h => right; rw [nx_end (by rw [h]; rfl) hp]; simp
  | c + 1, h =>
    cases k with
    | zero => simp [nestT] at hc
    | succ k =>
      cases b with
      | false =>
        right; rw [nx_open (R := (nestT false k ++ [93]).take c) (by rw [h]; simp [nestT])]; simp
      | true =>
        match c, h with
        | 0, h => left; rw [nx_lt (by rw [h]; simp [nestT])]; decide
        | c + 1, h => right; rw [nx_dopen (R := ([47, 65, 32] ++ (nestT true k ++ [62, 62])).take c) (by rw [h]; simp [nestT])]; simp

theorem nest_cut (b : Bool) : ∀ (k r p c : Nat), c < (nestT b k).length → p ≤ s.length → s.drop p = (nestT b k).take c → (objR (ofL s r) s p).2.2 ≠ 0
  | k, r, p, 0, _, hp, h => objR_stop _ _ _ (ofL_end s r) _ _ (nx_end (by rw [h]; rfl) hp)
  | 0, r, p, c + 1, hc, _, _ => by simp [nestT] at hc
  | k + 1, 0, p, c + 1, hc, hp, h => by
    cases b with
    | false => rw [obj_arr0 (R := (nestT false k ++ [93]).take c) (by rw [h]; simp [nestT])]; decide
    | true =>
      match c, h with
      | 0, h => exact objR_bad _ _ _ (by rw [nx_lt (by rw [h]; simp [nestT])]; decide)
      | c + 1, h => rw [obj_dic0 (R := ([47, 65, 32] ++ (nestT true k ++ [62, 62])).take c) (by rw [h]; simp [nestT])]; decide
  | k + 1, r + 1, p, c + 1, hc, hp, h => by
    have hl : s.length = p + (List.take (c + 1) (nestT b (k + 1))).length := by rw [← h, List.length_drop]; omega
    rw [List.length_take, Nat.min_eq_left (by omega)] at hl
    cases b with
    | false =>
      have hc' : c ≤ (nestT false k).length := by simp [nestT] at hc; omega
      have h1 : s.drop p = 91 :: (nestT false k ++ [93]).take c := by rw [h]; simp [nestT]
      have h2 : s.drop (p + 1) = (nestT false k ++ [93]).take c := drop_more (A := [91]) h1
      rw [obj_arr r h1]
      rcases Nat.lt_or_ge c (nestT false k).length with h3 | h3
      · rw [take_app h3] at h2
        have ih := nest_cut false k r (p + 1) c h3 (by omega) h2
        exact (arr_err _ _ _ 1024 (cut_kind false k (p + 1) c h3 (by omega) h2) ih).symm ▸ ih
      · obtain rfl : c = (nestT false k).length := by omega
        rw [List.take_left] at h2
        rw [← List.append_nil (nestT false k)] at h2
        obtain ⟨k1, k2⟩ := nest_kind false k (p + 1) _ tailNil h2
        rcases nest_any false k r (p + 1) _ tailNil h2 with ih | ih
        · rw [show arrL (ofL s r) s 1025 ((p + 1 : Nat) : Int) [] = _ from arr_step _ _ _ 1024 _ _ k1 k2 ih]
          exact arr_stop _ _ _ 1023 (ofL_end s r) _ _ _ (nx_end (drop_more h2) (by omega))
        · exact (arr_err _ _ _ 1024 (.inr k2) ih).symm ▸ ih
    | true =>
      match c, h, hl with
      | 0, h, hl => exact objR_bad _ _ _ (by rw [nx_lt (by rw [h]; simp [nestT])]; decide)
      | c + 1, h, hl =>
      have h1 : s.drop p = 60 :: 60 :: ([47, 65, 32] ++ (nestT true k ++ [62, 62])).take c := by rw [h]; simp [nestT]
      have h2 : s.drop (p + 2) = ([47, 65, 32] ++ (nestT true k ++ [62, 62])).take c := drop_more (A := [60, 60]) h1
      rw [obj_dic r h1]
      match c, h2, hl with
      | 0, h2, hl => exact dic_stop _ _ _ 1024 _ _ _ (nx_end (by rw [h2]; rfl) (by omega))
      | 1, h2, hl =>
        have e := objR_stop (ofL s r) s ((p + 2 + 1 : Nat) : Int) (ofL_end s r) _ _ (nx_end (drop_more (A := [47]) (B := []) h2) (by omega))
        exact (dic_err _ _ _ 1023 [] _ _ [] (nx_slash h2) e).symm ▸ e
      | 2, h2, hl =>
        have e := objR_stop (ofL s r) s ((p + 2 + 2 : Nat) : Int) (ofL_end s r) _ _ (nx_end (drop_more (A := [47, 65]) (B := []) h2) (by omega))
        exact (dic_err _ _ _ 1023 [] _ _ [65] (nx_name h2) e).symm ▸ e
      | c + 3, h2, hl =>
        have hc' : c ≤ (nestT true k).length + 1 := by simp [nestT] at hc; omega
        have h2 : s.drop (p + 2) = 47 :: 65 :: 32 :: (nestT true k ++ [62, 62]).take c := by rw [h2]; rfl
        have h3 : s.drop (p + 2 + 2) = 32 :: (nestT true k ++ [62, 62]).take c := drop_more (A := [47, 65]) h2
        have h4 : s.drop (p + 2 + 2 + 1) = (nestT true k ++ [62, 62]).take c := drop_more (A := [32]) h3
        have hsp := objR_next (ofL s r) s _ _ (nx_space h3)
        have fin : (objR (ofL s r) s ((p + 2 + 2 + 1 : Nat) : Int)).2.2 ≠ 0 → (dicL (ofL s r) s 1025 ((p + 2 : Nat) : Int) []).2.2 ≠ 0 := fun e => by
          rw [← hsp.1] at e
          exact (dic_err _ _ _ 1023 [] _ _ [65] (nx_names h2) e).symm ▸ e
        have go : ∀ R, tailOK R → s.drop (p + 2 + 2 + 1) = nestT true k ++ R → (∀ d, (dicL (ofL s r) s (1023 + 1) ((p + 2 + 2 + 1 + (nestT true k).length : Nat) : Int) d).2.2 ≠ 0) → (dicL (ofL s r) s 1025 ((p + 2 : Nat) : Int) []).2.2 ≠ 0 := by
          intro R hR h5 h6
          rcases nest_any true k r (p + 2 + 2 + 1) _ hR h5 with ih | ih
          · have ih2 := hsp.2 (by rw [ih])
            rw [ih] at ih2
            rw [show dicL (ofL s r) s 1025 ((p + 2 : Nat) : Int) [] = _ from dic_step _ _ _ 1023 [] _ _ [65] _ _ (nx_names h2) ih2]
            exact h6 _
          · exact fin ih
        rcases Nat.lt_or_ge c (nestT true k).length with h5 | h5
        · rw [take_app h5] at h4
          exact fin (nest_cut true k r _ c h5 (by omega) h4)
        · rcases Nat.eq_or_lt_of_le h5 with h6 | h6
          · subst h6
            rw [List.take_left, ← List.append_nil (nestT true k)] at h4
            exact go [] tailNil h4 fun d => dic_stop _ _ _ 1023 _ _ _ (nx_end (drop_more h4) (by omega))
          · obtain rfl : c = (nestT true k).length + 1 := by omega
            have e : (nestT true k ++ [62, 62]).take ((nestT true k).length + 1) = nestT true k ++ [62] := by
              rw [List.take_append, List.take_of_length_le (by omega)]; simp
            rw [e] at h4
            exact go [62] tail1 h4 fun d => dic_bad _ _ _ 1023 _ (by rw [nx_gt (drop_more h4)]; decide)
end Ink.D

namespace Ink.D
open Go Go.Proofs
set_option maxRecDepth 100000
set_option linter.unusedSimpArgs false
set_option linter.unusedVariables false
variable {E : Env} (hE : E.P = Tryd.prog)

theorem nestT_len (b : Bool) (k : Nat) : 1 ≤ (nestT b k).length ∧ (nestT b k).length ≤ 1 + 7 * k := by
  induction k with
  | zero => simp [nestT]
  | succ k ih => cases b <;> simp [nestT] <;> omega

theorem countO_nest (b : Bool) (k : Nat) : countO (nestO b k) = k + 1 := by
  induction k with
  | zero => simp [nestO, countO, countL, countD]
  | succ k ih => cases b <;> simp [nestO, countO, countL, countD, countE, ih] <;> omega

theorem parseR_nest (b : Bool) (k : Nat) : parseR (nestT b k) 0 = if k ≤ 64 then (nestO b k, ((nestT b k).length : Int), 0) else (ob00, 0, 5) := by
  have h : (nestT b k).drop 0 = nestT b k ++ [] := by simp
  unfold parseR
  by_cases hk : k ≤ 64
  · have := nest_good b k 64 0 [] hk tailNil h
    rw [show ((0 : Nat) : Int) = 0 from rfl] at this
    rw [this, if_pos rfl, if_pos hk]
    simp
  · have := nest_deep b 64 k 0 [] (by omega) tailNil h
    rw [show ((0 : Nat) : Int) = 0 from rfl] at this
    rw [this, if_neg (by decide), if_neg hk]

theorem parseR_cut (b : Bool) (k c : Nat) (hc : c < (nestT b k).length) : (parseR ((nestT b k).take c) 0).2.2 ≠ 0 := by
  have := nest_cut (s := (nestT b k).take c) b k 64 0 c hc (by omega) (by simp)
  rw [show ((0 : Nat) : Int) = 0 from rfl] at this
  unfold parseR
  rw [if_neg this]
  exact this

theorem and_low2 (n : Int) (m : Nat) (hm : m < 4611686018427387904) : 0 ≤ bits .and .i64 n m ∧ bits .and .i64 n m ≤ m := by
  have h1 : ((BitVec.ofInt 64 n) &&& (BitVec.ofInt 64 (m : Int))).toNat ≤ m := by
    rw [BitVec.toNat_and]
    refine Nat.le_trans Nat.and_le_right ?_
    simp [BitVec.toNat_ofInt]; omega
  have e : bits .and .i64 n m = IntKind.wrap .i64 (((BitVec.ofInt 64 n) &&& (BitVec.ofInt 64 (m : Int))).toNat : Int) := rfl
  rw [e]
  generalize ((BitVec.ofInt 64 n) &&& (BitVec.ofInt 64 (m : Int))).toNat = z at *
  have : IntKind.wrap .i64 (z : Int) = z := wrap_i64 ⟨by omega, by omega⟩
  rw [this]; omega

include hE
set_option maxHeartbeats 2000000 in
theorem cosDeep (n : Int) (b : Bool) (m : Int) : PCalls E 10 [.int .i64 n, .bool b, .int .i64 m] (· = .bool true) := by
  have hk : 0 ≤ bits .and .i64 n 127 ∧ bits .and .i64 n 127 ≤ 127 := and_low2 n 127 (by decide)
  have hj : 0 ≤ bits .and .i64 m 65535 ∧ bits .and .i64 m 65535 ≤ 65535 := and_low2 m 65535 (by decide)
  obtain ⟨kk, hkk⟩ : ∃ kk : Nat, bits .and .i64 n 127 = kk := ⟨(bits .and .i64 n 127).toNat, by have := hk.1; omega⟩
  obtain ⟨jj, hjj⟩ : ∃ jj : Nat, bits .and .i64 m 65535 = jj := ⟨(bits .and .i64 m 65535).toNat, by have := hj.1; omega⟩
  rw [hkk] at hk
  rw [hjj] at hj
  have hA := awake30 hE
  refine p10 hE fun l => ?_
  conv => whnf
  repeat' (first
    | (rw [hkk]; conv => whnf)
    | (refine And.intro ?_ ?_; (focus (first | omega | decide | (unfold inI64; omega) | (simp only [List.length_append, List.length_cons, List.length_nil] <;> omega) | (refine ⟨?_, ?_⟩ <;> omega) | (refine ⟨?_, ?_, ?_, ?_, ?_, ?_⟩ <;> first | rfl | trivial | decide | omega | (simp [bytesAV_length] <;> omega)) | (simp <;> omega) | (unfold inI64; simp only [List.length_append, List.length_cons, List.length_nil] <;> omega))); conv => whnf)
    | (refine brD (fun _ => ?_) (fun _ => ?_) <;> first | (exfalso; omega) | (conv => whnf))
    | (refine brB (fun _ => ?_) (fun _ => ?_) <;> conv => whnf)
    | ((first | refine CallG.e (hA) ?_ | refine CallD.e (hA) ?_ | refine CallQ.e (hA) ?_ | refine CallP.e (hA) ?_); conv => whnf))
  refine LoopG.s (fun x : Nat => x ≤ kk) 91 (fun x => [(1, .bool b), (2, .int .i64 m), (6, .bool false), (7, .bool true), (8, .int .i64 kk), (9, .str (nestT b x)), (10, .int .i64 x)]) (fun _ => frm l) (fun x => kk - x) 0 (by omega) rfl ⟨rfl, rfl, rfl, rfl, rfl, rfl, rfl⟩ rfl ?_
  intro x h1
  by_cases hx : x < kk
  · have hl := nestT_len b x
    cases b with
    | true =>
      conv => whnf
      repeat' (first
        | (refine And.intro ?_ ?_; (focus (first | omega | decide | (unfold inI64; omega) | (simp only [List.length_append, List.length_cons, List.length_nil] <;> omega) | (refine ⟨?_, ?_⟩ <;> omega) | (refine ⟨?_, ?_, ?_, ?_, ?_, ?_⟩ <;> first | rfl | trivial | decide | omega | (simp [bytesAV_length] <;> omega)) | (simp <;> omega) | (unfold inI64; simp only [List.length_append, List.length_cons, List.length_nil] <;> omega))); conv => whnf)
        | (refine brD (fun _ => ?_) (fun _ => ?_) <;> first | (exfalso; omega) | (conv => whnf))
        | (refine brB (fun _ => ?_) (fun _ => ?_) <;> conv => whnf))
      exact ⟨x + 1, ⟨by omega, by omega⟩, Wk.slots rfl ⟨rfl, rfl, rfl, rfl, rfl, congrArg (fun z => some (AV.str z)) (by simp [nestT]), rfl⟩⟩
    | false =>
      conv => whnf
      repeat' (first
        | (refine And.intro ?_ ?_; (focus (first | omega | decide | (unfold inI64; omega) | (simp only [List.length_append, List.length_cons, List.length_nil] <;> omega) | (refine ⟨?_, ?_⟩ <;> omega) | (refine ⟨?_, ?_, ?_, ?_, ?_, ?_⟩ <;> first | rfl | trivial | decide | omega | (simp [bytesAV_length] <;> omega)) | (simp <;> omega) | (unfold inI64; simp only [List.length_append, List.length_cons, List.length_nil] <;> omega))); conv => whnf)
        | (refine brD (fun _ => ?_) (fun _ => ?_) <;> first | (exfalso; omega) | (conv => whnf))
        | (refine brB (fun _ => ?_) (fun _ => ?_) <;> conv => whnf))
      exact ⟨x + 1, ⟨by omega, by omega⟩, Wk.slots rfl ⟨rfl, rfl, rfl, rfl, rfl, congrArg (fun z => some (AV.str z)) (by simp [nestT]), rfl⟩⟩
  · obtain rfl : x = kk := by omega
    have hl := nestT_len b x
    have hp := parse31 hE (nestT b x) 0 (by omega)
    rw [parseR_nest] at hp
    by_cases h64 : x ≤ 64
    · rw [if_pos h64] at hp
      simp only at hp
      have hpc := fun c (hc : c < (nestT b x).length) => parse31 hE ((nestT b x).take c) 0 (by rw [List.length_take]; omega)
      have hpe := parseR_cut b x
      have hcn := count32 hE _ (nestO b x) (Nat.lt_succ_self _) (by rw [countO_nest]; unfold big; omega)
      rw [countO_nest] at hcn
      have h0 : x = 0 → nestO b x = .mk 2 1 7000 [] [] [] := fun h => by subst h; rfl
      have hlt : jj % (nestT b x).length < (nestT b x).length := Nat.mod_lt _ (by omega)
      have hce : (jj : Int).tmod ((nestT b x).length : Int) = ((jj % (nestT b x).length : Nat) : Int) := rfl
      generalize jj % (nestT b x).length = c at *
      have hpc := hpc c hlt
      have hpe := hpe c hlt
      generalize parseR (List.take c (nestT b x)) 0 = z at *
      obtain ⟨⟨zk, zn, zf, zs, zl, zd⟩, za, ze⟩ := z
      generalize nestO b x = o at *
      obtain ⟨ok, on_, of_, os, ol, od⟩ := o
      unfold obC at hp hcn hpc
      simp only at hpe hpc
      conv => whnf
      repeat' (first
        | (rw [hjj]; conv => whnf)
        | (rw [hce]; conv => whnf)
        | (refine And.intro ?_ ?_; (focus (first | omega | decide | (unfold inI64; omega) | (simp only [List.length_append, List.length_cons, List.length_nil] <;> omega) | (refine ⟨?_, ?_⟩ <;> omega) | (refine ⟨?_, ?_, ?_, ?_, ?_, ?_⟩ <;> first | rfl | trivial | decide | omega | (simp [bytesAV_length] <;> omega)) | (simp <;> omega) | (unfold inI64; simp only [List.length_append, List.length_cons, List.length_nil] <;> omega))); conv => whnf)
        | (refine brD (fun _ => ?_) (fun _ => ?_) <;> first | (exfalso; omega) | (conv => whnf))
        | (refine brB (fun _ => ?_) (fun _ => ?_) <;> conv => whnf)
        | ((first | refine CallG.e (hp) ?_ | refine CallD.e (hp) ?_ | refine CallQ.e (hp) ?_ | refine CallP.e (hp) ?_); conv => whnf)
        | ((first | refine CallG.e (hcn) ?_ | refine CallD.e (hcn) ?_ | refine CallQ.e (hcn) ?_ | refine CallP.e (hcn) ?_); conv => whnf)
        | (refine And.intro ⟨by omega, by omega⟩ ?_; conv => whnf)
        | ((first | refine CallG.e (hpc) ?_ | refine CallD.e (hpc) ?_ | refine CallQ.e (hpc) ?_ | refine CallP.e (hpc) ?_); conv => whnf))
      · rename_i hx0
        cases h0 (by omega)
        exact RetG.drop rfl rfl rfl ⟨rfl, rfl, rfl⟩
      · exact RetG.drop rfl rfl rfl ⟨rfl, congrArg AV.bool (by simpa using hpe), rfl⟩
    · rw [if_neg h64] at hp
      simp only at hp
      unfold obC at hp
      conv => whnf
      repeat' (first
        | (refine And.intro ?_ ?_; (focus (first | omega | decide | (unfold inI64; omega) | (simp only [List.length_append, List.length_cons, List.length_nil] <;> omega) | (refine ⟨?_, ?_⟩ <;> omega) | (refine ⟨?_, ?_, ?_, ?_, ?_, ?_⟩ <;> first | rfl | trivial | decide | omega | (simp [bytesAV_length] <;> omega)) | (simp <;> omega) | (unfold inI64; simp only [List.length_append, List.length_cons, List.length_nil] <;> omega))); conv => whnf)
        | (refine brD (fun _ => ?_) (fun _ => ?_) <;> first | (exfalso; omega) | (conv => whnf))
        | (refine brB (fun _ => ?_) (fun _ => ?_) <;> conv => whnf)
        | ((first | refine CallG.e (hp) ?_ | refine CallD.e (hp) ?_ | refine CallQ.e (hp) ?_ | refine CallP.e (hp) ?_); conv => whnf))
      exact RetG.drop rfl rfl rfl ⟨rfl, rfl, rfl⟩
end Ink.D
