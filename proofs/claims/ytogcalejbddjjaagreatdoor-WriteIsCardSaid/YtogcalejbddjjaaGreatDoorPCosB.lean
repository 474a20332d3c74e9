import Derived.Test.YtogcalejbddjjaaGreatDoorPLexB
import Derived.Test.YtogcalejbddjjaaGreatDoorPCosA
import Derived.Test.YtogcalejbddjjaaGreatDoorPLexA
import Derived.Test.YtogcalejbddjjaaGreatDoorInkF
set_option linter.all false
namespace Ink.D
open Go Go.Proofs
set_option maxRecDepth 100000
variable {E : Env} (hE : E.P = Tryz.prog)

abbrev nilA : AV := .lit (.slice none 0 0)
abbrev ob00 : Ob := .mk 0 0 0 [] [] []

theorem pubOb {H : List Blk} {m : Nat} (k n f : Int) (s : List UInt8) : Pub H m (.agg [.int .i64 k, .int .i64 n, .int .i64 f, .str s, nilA, nilA]) (.agg (obC (.mk k n f s [] []))) := by
  refine Pub.aggL ?_ (obC_sc _)
  exact ⟨.same _ rfl, .same _ rfl, .same _ rfl, .same _ rfl, .nil _ _, .nil _ _, trivial⟩

include hE
end Ink.D

namespace Ink.D
open Go Go.Proofs
set_option maxRecDepth 100000
variable {E : Env} (hE : E.P = Tryz.prog)

abbrev PR := Ob × Int × Int

include hE
end Ink.D

namespace Ink.D
open Go Go.Proofs
set_option maxRecDepth 100000
variable {E : Env} (hE : E.P = Tryz.prog)

include hE
omit hE in
def cellsL (d : List Ob) : List AV := (obL d).flatten
omit hE in
theorem cellsL_append (a b : List Ob) : cellsL (a ++ b) = cellsL a ++ cellsL b := by
  simp [cellsL, obL_map]

omit hE in
theorem obC_len (o : Ob) : (obC o).length = 6 := by
  obtain ⟨k, n, f, s, l, d⟩ := o
  unfold obC
  rfl
omit hE in
theorem cellsL_length (l : List Ob) : (cellsL l).length = l.length * 6 := by
  induction l with
  | nil => rfl
  | cons o l ih => rw [← List.singleton_append, cellsL_append, List.length_append, ih, List.length_append]; simp [cellsL, obL_map, obC_len]; omega
omit hE in
theorem pubL {H : List Blk} {n i ver : Nat} (F : List Ob) (hl : liveCells H i ver = some (26, cellsL F)) (hi : n ≤ i) : Pub H n (.own i ver 0 F.length 6) (.imm 6 (obL F)) := by
  refine .own i ver 0 F.length 6 26 _ _ hl hi (by rw [obL_map]; simp) ?_ ?_ ?_ (fun j x y hx hy => ?_)
  · intro x hx
    rw [obL_map] at hx
    obtain ⟨o, _, rfl⟩ := List.mem_map.mp hx
    exact obC_len o
  · intro x hx
    obtain ⟨y, hy, hx⟩ := List.mem_flatten.mp hx
    rw [obL_map] at hy
    obtain ⟨o, _, rfl⟩ := List.mem_map.mp hy
    exact obC_sc o x hx
  · show 0 + (cellsL F).length ≤ _
    simp
  · have hx' : (cellsL F)[j]? = some x := hx
    rw [Nat.zero_add, hx'] at hy
    cases hy
    refine .same _ ?_
    obtain ⟨z, hz, hx2⟩ := List.mem_flatten.mp (List.mem_of_getElem? hx)
    rw [obL_map] at hz
    obtain ⟨o, _, rfl⟩ := List.mem_map.mp hz
    exact hbL_iff.mp (obC_hb o) x hx2

omit hE in
theorem take_all {α : Type} {l : List α} {n : Nat} (h : l.length = n) : l.take n = l := by rw [← h, List.take_length]
omit hE in
theorem cellsL_hb (n0 : Nat) (l : List Ob) : hbL n0 (cellsL l) = true := by
  rw [hbL_iff]
  intro x hx
  obtain ⟨z, hz, hx2⟩ := List.mem_flatten.mp hx
  rw [obL_map] at hz
  obtain ⟨o, _, rfl⟩ := List.mem_map.mp hz
  exact hbL_iff.mp (obC_hb o) x hx2
omit hE in
theorem _root_.Ink.GcB.eq {H H' : List Blk} {sel : List (Option Nat)} {k k' : BK} (h : k = k') (hf : bkFree k' = true) : GcB H H' sel k k' := by
  subst h; exact .same _ hf

end Ink.D

namespace Ink.D
open Go Go.Proofs
set_option maxRecDepth 100000
variable {E : Env} (hE : E.P = Tryz.prog)

theorem insD_len (k : Nat) (e : List UInt8 × Ob) (d : List (List UInt8 × Ob)) : (insD k e d).length = d.length + 1 := by
  simp [insD]; omega

theorem setD_len (d : List (List UInt8 × Ob)) (key : List UInt8) (v : Ob) : (setD d key v).length ≤ d.length + 1 := by
  have := dropD_le key d
  unfold setD
  split
  · omega
  · split
    · simp; omega
    · rw [insD_len]; omega

include hE
end Ink.D

namespace Ink.D
open Go Go.Proofs
set_option maxRecDepth 100000
variable {E : Env} (hE : E.P = Tryz.prog)

include hE
end Ink.D

namespace Ink.D
open Go Go.Proofs
set_option maxRecDepth 100000
variable {E : Env} (hE : E.P = Tryz.prog)

def intR (n : Int) : Int × Int := if mayF n then told (n * 1000) else (0, 2)
def intO (n : Int) : Ob := if (intR n).2 = 0 then .mk 2 1 (intR n).1 [] [] [] else ob00

include hE
theorem fixInt58 (n : Int) : PCalls E 165 [.int .i64 n] (· = fxAV (intR n)) := by
  have hS : PCalls E 117 [.imm 1 [[.int .i64 n]]] (· = .bool (mayF n)) := by simpa using sane hE [n] (by unfold big; simp)
  have hT := told_ hE (n * 1000)
  have hm : mayF n = true → inI64 (n * 1000) := by
    intro h
    unfold mayF at h
    simp at h
    unfold inI64; omega
  refine p165 hE (fun l => ?_)
  unfold intR fxAV at *
  generalize told (n * 1000) = x at *
  cases h : mayF n with
  | true =>
    rw [h] at hS
    have hm := hm h
    conv => whnf
    repeat' (first
      | (refine And.intro W1 ?_; conv => whnf)
      | (refine brD (fun _ => ?_) (fun _ => ?_) <;> first | (exfalso; omega) | (conv => whnf))
      | (refine brB (fun _ => ?_) (fun _ => ?_) <;> conv => whnf)
      | ((first | refine CallG.e hS ?_ | refine CallD.e hS ?_ | refine CallQ.e hS ?_ | refine CallP.e hS ?_); conv => whnf)
      | ((first | refine CallG.e hT ?_ | refine CallD.e hT ?_ | refine CallQ.e hT ?_ | refine CallP.e hT ?_); conv => whnf)
      | ((first | refine CallG.e hm ?_ | refine CallD.e hm ?_ | refine CallQ.e hm ?_ | refine CallP.e hm ?_); conv => whnf))
    exact RetG.q ⟨rfl, rfl, rfl⟩
  | false =>
    rw [h] at hS
    conv => whnf
    repeat' (first
      | (refine And.intro W1 ?_; conv => whnf)
      | (refine brD (fun _ => ?_) (fun _ => ?_) <;> first | (exfalso; omega) | (conv => whnf))
      | (refine brB (fun _ => ?_) (fun _ => ?_) <;> conv => whnf)
      | ((first | refine CallG.e hS ?_ | refine CallD.e hS ?_ | refine CallQ.e hS ?_ | refine CallP.e hS ?_); conv => whnf))
    exact RetG.q ⟨rfl, rfl, rfl⟩

theorem int34 (n : Int) : PCalls E 107 [.int .i64 n] (· = .agg (obC (intO n))) := by
  have h := fixInt58 hE n
  refine p107 hE (fun l => ?_)
  unfold intO fxAV at *
  generalize intR n = x at *
  obtain ⟨f, e⟩ := x
  simp only at *
  conv => whnf
  repeat' (first
    | (refine And.intro W1 ?_; conv => whnf)
    | (refine brD (fun _ => ?_) (fun _ => ?_) <;> first | (exfalso; omega) | (conv => whnf))
    | (refine brB (fun _ => ?_) (fun _ => ?_) <;> conv => whnf)
    | ((first | refine CallG.e h ?_ | refine CallD.e h ?_ | refine CallQ.e h ?_ | refine CallP.e h ?_); conv => whnf))
  · rename_i he
    rw [if_neg he]
    exact RetG.pub (pubOb 0 0 0 []) rfl rfl ⟨by simp [hb, hbL, obC_hb], rfl, rfl⟩
  · rename_i he
    rw [if_pos (Decidable.not_not.mp he)]
    exact RetG.pub (pubOb 2 1 f []) rfl rfl ⟨by simp [hb, hbL, obC_hb], rfl, rfl⟩

omit hE in
mutual
def countO : Ob → Nat
  | .mk _ _ _ _ l d => 1 + countL l + countD d
def countL : List Ob → Nat
  | [] => 0
  | o :: r => countO o + countL r
def countD : List (List UInt8 × Ob) → Nat
  | [] => 0
  | e :: r => countE e + countD r
def countE : List UInt8 × Ob → Nat
  | (_, o) => countO o
end
omit hE in
theorem countE_eq (e : List UInt8 × Ob) : countE e = countO e.2 := by obtain ⟨a, o⟩ := e; rfl
omit hE in
theorem countL_len (l : List Ob) : l.length ≤ countL l := by
  induction l with
  | nil => simp
  | cons o l ih => cases o; simp [countL, countO]; omega
omit hE in
theorem countD_len (l : List (List UInt8 × Ob)) : l.length ≤ countD l := by
  induction l with
  | nil => simp
  | cons e l ih => obtain ⟨a, o⟩ := e; cases o; simp [countD, countE, countO]; omega

end Ink.D

namespace Ink.D
open Go Go.Proofs
set_option maxRecDepth 100000
variable {E : Env} (hE : E.P = Tryz.prog)

include hE
omit hE in
theorem countO_mem {l : List Ob} {o : Ob} (h : o ∈ l) : countO o ≤ countL l := by
  induction l with
  | nil => simp at h
  | cons a l ih =>
    rcases List.mem_cons.mp h with rfl | h
    · simp [countL]
    · have := ih h; simp [countL]; omega
omit hE in
theorem countD_mem {d : List (List UInt8 × Ob)} {e : List UInt8 × Ob} (h : e ∈ d) : countO e.2 ≤ countD d := by
  induction d with
  | nil => simp at h
  | cons a l ih =>
    rcases List.mem_cons.mp h with rfl | h
    · simp [countD, countE_eq]
    · have := ih h; simp [countD]; omega

end Ink.D
