import Derived.Test.YtogcalejbddjjaaGreatDoorPCosE
import Derived.Test.YtogcalejbddjjaaGreatDoorTyN1
set_option linter.all false
namespace Ink.D
open Go Go.Proofs Go.ChangeShapes Go.WideShapes Go.ChangeAt Go.RowKit
set_option maxRecDepth 100000

/-! operators handed in -/
structure OpT (P : Program) (tQ tP tS tL : TypeId) : Prop where
  hQ : P.underlying tQ = some (.slice tP)
  hP : ∃ fs, P.underlying tP = some (.struct fs) ∧ fs.toList.map (fun f => (f.type, f.offset)) = [(tS, 0), (tL, 1)]
  cP : P.cellsOf tP = 2
  bP : 1 ≤ P.bytesOf tP

section
variable {H : Type} {enc : TypeId × Value → H} {P : Program} {W : World} {sp : Nat → Bool}
variable {tI tF tS tL tD tO tE tQ tP : TypeId}

theorem trod_objs (T : ObT P tI tF tS tL tD tO tE) (fuel : Nat) (cs : List Value) (x : DataW H × List MemPlace) (h4 : DataW.trod enc P W 0 sp true fuel tL cs = some x) (m4 : ∀ n ∈ x.1.weights P tL, n ≤ 140737488351232) :
    ∃ (v : Value) (l : List Ob), cs = [v] ∧ VR (cx0 W) (.imm 6 (obL l)) v ∧ l.length ≤ 140737488351232 ∧ wfOs l := by
  cases fuel with
  | zero => simp [DataW.trod] at h4
  | succ fuel =>
  rcases trod_slice T.hL h4 with e4 | ⟨a, len, cap, e4, hc1, hc2, ⟨mm, hmm⟩, hel⟩
  · exact ⟨_, [], e4, .immE 6 none 0, by simp, by simp [wfOs]⟩
  · have hel2 : ∀ i, i < len → ∃ o : Ob, (∃ c, W.cells? 0 (a.add (i * 6)) 6 = some c ∧ SeenL W (obC o) c) ∧ wfO o := by
      intro i hi
      obtain ⟨c, y, hc, hy, hwy⟩ := hel i hi
      rw [T.cO] at hc
      obtain ⟨o, ho, hw⟩ := trod_obj T (fuel + 1) fuel (by omega) c y hy (fun n hn => m4 n (hwy n hn))
      exact ⟨o, ⟨c, hc, ho⟩, hw⟩
    obtain ⟨f, hf⟩ := choose_lt hel2
    refine ⟨_, (List.range len).map f, e4, ?_, by simp; have h1 := m4 _ hmm; have h2 := Nat.mul_le_mul_left (len + mm) T.bO; omega, wfOs_iff.2 ?_⟩
    · refine imm_rows (by decide) a _ (by rw [obL_map]; simp) hc1 ?_ ?_ ?_
      · intro x hx
        rw [obL_map] at hx
        obtain ⟨o, _, rfl⟩ := List.mem_map.mp hx
        cases o; rfl
      · intro x hx
        obtain ⟨z, hz, hx⟩ := List.mem_flatten.mp hx
        rw [obL_map] at hz
        obtain ⟨o, _, rfl⟩ := List.mem_map.mp hz
        exact obC_sc o x hx
      · intro i x hx
        rw [obL_map, List.getElem?_map, List.getElem?_map] at hx
        have hi : i < len := by
          rcases Nat.lt_or_ge i len with h | h
          · exact h
          · rw [List.getElem?_eq_none (by simpa using h)] at hx; simp at hx
        rw [List.getElem?_range hi] at hx
        simp at hx
        subst hx
        exact (hf i hi).1
    · intro o ho
      obtain ⟨i, hi, rfl⟩ := List.mem_map.mp ho
      exact (hf i (by simpa using hi)).2

def wfOp (p : OpL) : Prop := p.1.length ≤ 140737488351232 ∧ p.2.length ≤ 140737488351232 ∧ wfOs p.2

instance : Inhabited OpL := ⟨([], [])⟩

theorem open_ops (T : ObT P tI tF tS tL tD tO tE) (U : OpT P tQ tP tS tL) {v : Value} {d : DataW H} {ps : List MemPlace} (hv : ∃ a l n, v = .slice a l n) (hd : DataW.Trod enc P W 0 sp true tQ v d ps) (hwt : ∀ n ∈ d.weights P tQ, n ≤ 140737488351232) :
    ∃ l : List OpL, VR (cx0 W) (.imm 2 (opLs l)) v ∧ l.length ≤ 140737488351232 ∧ ∀ p ∈ l, wfOp p := by
  obtain ⟨fuel, hf⟩ := hd
  obtain ⟨a0, l0, n0, rfl⟩ := hv
  have hcs : (Value.slice a0 l0 n0).cells.toList = [.slice a0 l0 n0] := rfl
  rw [hcs] at hf
  cases fuel with
  | zero => simp [DataW.trod] at hf
  | succ fuel =>
  rcases trod_slice U.hQ hf with e4 | ⟨a, len, cap, e4, hc1, hc2, ⟨mm, hmm⟩, hel⟩
  · simp only [List.cons.injEq, Value.slice.injEq, and_true] at e4
    obtain ⟨rfl, rfl, rfl⟩ := e4
    exact ⟨[], .immE 2 none 0, by simp, by simp⟩
  · have hel2 : ∀ i, i < len → ∃ p : OpL, (∃ c, W.cells? 0 (a.add (i * 2)) 2 = some c ∧ SeenL W (opE p) c) ∧ wfOp p := by
      intro i hi
      obtain ⟨c, y, hc, hy, hwy⟩ := hel i hi
      rw [U.cP] at hc
      obtain ⟨gs, hE, hgs⟩ := U.hP
      cases fuel with
      | zero => simp [DataW.trod] at hy
      | succ fuel =>
      obtain ⟨hcl, hq⟩ := trod_struct hE hy
      rw [hgs] at hq
      rw [U.cP] at hcl
      match c, hcl with
      | [u0, u1], _ =>
      obtain ⟨z0, g0, r0⟩ := hq (tS, 0) (by simp)
      obtain ⟨z1, g1, r1⟩ := hq (tL, 1) (by simp)
      simp only [T.cS, T.cL] at g0 g1
      obtain ⟨key, q0, qw⟩ := trod_str T.hS g0
      simp at q0
      subst q0
      have qw := hwt _ (hwy _ (r0 _ qw))
      obtain ⟨w, l, hw0, hl1, hl2, hl3⟩ := trod_objs T fuel _ z1 g1 (fun n hn => hwt n (hwy n (r1 n hn)))
      simp at hw0
      subst hw0
      exact ⟨(key.data.toList, l), ⟨_, hc, seen_cons (.str _ _ rfl) (seen_cons hl1 seen_nil)⟩, qw, hl2, hl3⟩
    obtain ⟨f, hf⟩ := choose_lt hel2
    have hvr : VR (cx0 W) (.imm 2 (opLs ((List.range len).map f))) (.slice (some a) len cap) := by
      refine imm_rows (by decide) a _ (by simp [opLs]) hc1 ?_ ?_ ?_
      · intro x hx
        obtain ⟨o, _, rfl⟩ := List.mem_map.mp hx
        rfl
      · intro x hx
        obtain ⟨z, hz, hx⟩ := List.mem_flatten.mp hx
        obtain ⟨o, _, rfl⟩ := List.mem_map.mp hz
        exact opE_sc o x hx
      · intro i x hx
        unfold opLs at hx
        rw [List.getElem?_map, List.getElem?_map] at hx
        have hi : i < len := by
          rcases Nat.lt_or_ge i len with h | h
          · exact h
          · rw [List.getElem?_eq_none (by simpa using h)] at hx; simp at hx
        rw [List.getElem?_range hi] at hx
        simp at hx
        subst hx
        exact (hf i hi).1
    refine ⟨(List.range len).map f, ?_, by simp; have h1 := hwt _ hmm; have h2 := Nat.mul_le_mul_left (len + mm) U.bP; omega, ?_⟩
    · simp only [List.cons.injEq, Value.slice.injEq, and_true] at e4
      obtain ⟨rfl, rfl, rfl⟩ := e4
      exact hvr
    · intro p hp
      obtain ⟨i, hi, rfl⟩ := List.mem_map.mp hp
      exact (hf i (by simpa using hi)).2
end
end Ink.D
