import Derived.Test.YtogcalejbddjjaaGreatDoorTyN6
import Derived.Test.YtogcalejbddjjaaGreatDoorTyOC
import Derived.Test.YtogcalejbddjjaaGreatDoorPCosE
set_option linter.all false
namespace Ink.D
open Go Go.Proofs
set_option maxRecDepth 100000
variable {E : Env} (hE : E.P = Tryz.prog)

/-! operators handed in: as ours, as theirs; few of them -/
theorem pubOt {H : List Blk} {n i ver : Nat} {t : TypeId} (F : List OpL) (hl : liveCells H i ver = some (t, cellsO F)) (hi : n ≤ i) : Pub H n (.own i ver 0 F.length 2) (.imm 2 (opLs F)) := by
  refine .own i ver 0 F.length 2 t _ _ hl hi (opLs_len F) ?_ ?_ ?_ (fun j x y hx hy => ?_)
  · intro x hx
    obtain ⟨o, _, rfl⟩ := List.mem_map.mp hx
    rfl
  · intro x hx
    obtain ⟨y, hy, hx⟩ := List.mem_flatten.mp hx
    obtain ⟨o, _, rfl⟩ := List.mem_map.mp hy
    exact opE_sc o x hx
  · show 0 + (cellsO F).length ≤ _
    simp
  · have hx' : (cellsO F)[j]? = some x := hx
    rw [Nat.zero_add, hx'] at hy
    cases hy
    exact .same _ (hbL_iff.mp (cellsO_hb n F) x (List.mem_of_getElem? hx'))

theorem cellsO_take {l : List OpL} {x : Nat} (h : x < l.length) : cellsO (l.take (x + 1)) = cellsO (l.take x) ++ opE l[x] := by
  rw [List.take_succ_eq_append_getElem h, cellsO_append]; simp [cellsO, opLs]

def opO (p : OpL) : Ob := .mk 0 0 0 p.1 p.2 []
def allO (l : List OpL) : Ob := .mk 0 0 0 [] (l.map opO) []
def fewOps (l : List OpL) (most : Nat) : Bool := decide (l.length ≤ most) && decide (0 ≤ fewO (allO l) most 0)

theorem allO_wf {l : List OpL} (h0 : l.length ≤ 140737488351232) (h : ∀ p ∈ l, wfOp p) : wfO (allO l) := by
  unfold allO wfO
  refine ⟨by unfold inI64; omega, by unfold inI64; omega, by unfold inI64; omega, by simp, by simpa using h0, by simp, wfOs_iff.2 ?_, by simp [wfDs]⟩
  intro o ho
  obtain ⟨p, hp, rfl⟩ := List.mem_map.mp ho
  obtain ⟨h1, h2, h3⟩ := h p hp
  unfold opO wfO
  exact ⟨by unfold inI64; omega, by unfold inI64; omega, by unfold inI64; omega, h1, h2, by simp, h3, by simp [wfDs]⟩

include hE
theorem ours49 (ops : List OpL) (hl : ops.length < 1000000) : PCalls E 49 [.imm 2 (opLs ops)] (· = .imm 2 (opLs ops)) := by
  have hlL := opLs_len ops
  have hL : ∀ n0, hbLL n0 (opLs ops) = true := fun n0 => opLs_hb ops
  refine p49 hE (fun l => ?_) (by simp [hbL, hb, hL])
  conv => whnf
  repeat' (first
    | (refine And.intro W1 ?_; conv => whnf)
    | (refine brD (fun _ => ?_) (fun _ => ?_) <;> first | (exfalso; omega) | (conv => whnf))
    | (refine brB (fun _ => ?_) (fun _ => ?_) <;> conv => whnf))
  refine LoopG.w (fun x : Nat => x ≤ ops.length) 26 (fun x => [(0, .imm 2 (opLs ops)), (2, nilA), (3, .own 1 0 0 x 2), (4, .int .i64 x)]) (fun x => [⟨0, true, .frame l⟩, ⟨0, true, .cells 47 (cellsO (ops.take x))⟩]) (fun x => ops.length - x) 0 (by omega)
    (Wk.gc [some 0, none] rfl rfl rfl ⟨⟨_, _, rfl, rfl, .same _ rfl⟩, ⟨0, 47, rfl⟩, trivial⟩ ⟨⟨_, rfl, .same _ (by simp [hb, hL])⟩, ⟨_, rfl, .same _ rfl⟩, ⟨_, rfl, .nilOwn 1 0 2 47 rfl rfl⟩, ⟨_, rfl, .same _ rfl⟩, trivial⟩) ?_
  intro x h1
  by_cases hx : x < ops.length
  · have hg := opLs_at hx
    rw [opE_at] at hg
    have htk := cellsO_take hx
    have hA : ∀ n0, hbLL n0 (obL ops[x].2) = true := fun n0 => obL_hb _
    have hcl : 0 + x * 2 ≤ (cellsO (ops.take x)).length := by rw [cellsO_length, List.length_take]; omega
    have hcap : (x + 1) * 40 ≤ 70368744177664 := by omega
    conv => whnf
    repeat' (first
      | (rw [hg]; conv => whnf)
      | (refine And.intro W1 ?_; conv => whnf)
      | (refine brD (fun _ => ?_) (fun _ => ?_) <;> first | (exfalso; omega) | (conv => whnf))
      | (refine brB (fun _ => ?_) (fun _ => ?_) <;> conv => whnf)
      | (refine And.intro ⟨rfl, rfl, rfl, hcl, by decide, hcap⟩ ?_; conv => whnf))
    have hcell : BK.cells 47 (((cellsO (ops.take x)).drop 0).take (x * 2) ++ [[AV.str ops[x].1, .imm 6 (obL ops[x].2)]].flatten) = BK.cells 47 (cellsO (ops.take (x + 1))) := by
      rw [List.drop_zero, take_all (by rw [cellsO_length, List.length_take]; omega), htk]; rfl
    exact ⟨x + 1, ⟨by omega, by omega⟩, Wk.gc [some 0, some 1] rfl rfl rfl ⟨⟨_, _, rfl, rfl, .same _ rfl⟩, ⟨_, _, rfl, rfl, .eq hcell (by simp [bkFree, hbB, cellsO_hb])⟩, trivial⟩
      ⟨⟨_, rfl, .same _ (by simp [hb, hL])⟩, ⟨_, rfl, .same _ rfl⟩, ⟨_, rfl, .own 1 1 1 0 0 _ 2 _ _ rfl rfl rfl⟩, ⟨_, rfl, .same _ rfl⟩, trivial⟩⟩
  · obtain rfl : x = ops.length := by omega
    rw [List.take_length]
    conv => whnf
    repeat' (first
      | (refine And.intro W1 ?_; conv => whnf)
      | (refine brD (fun _ => ?_) (fun _ => ?_) <;> first | (exfalso; omega) | (conv => whnf))
      | (refine brB (fun _ => ?_) (fun _ => ?_) <;> conv => whnf))
    exact RetG.pub (pubOt ops rfl (show 1 ≤ 1 by decide)) rfl rfl ⟨by simp [hb, hL], rfl, rfl⟩

theorem few47 (ops : List OpL) (hl : ops.length ≤ 140737488351232) (hw : ∀ p ∈ ops, wfOp p) (most : Nat) (hm : most ≤ 100000) : PCalls E 47 [.imm 2 (opLs ops), .int .i64 most] (· = .bool (fewOps ops most)) := by
  have hlL := opLs_len ops
  have hL : ∀ n0, hbLL n0 (opLs ops) = true := fun n0 => opLs_hb ops
  have hF := few37 hE (allO ops) (allO_wf (by omega) hw) most (by omega) (by omega)
  unfold fewOps
  generalize fewO (allO ops) most 0 = fa at *
  refine p47 hE (fun l => ?_) (by simp [hbL, hb, hL])
  by_cases hml : ops.length ≤ most
  · rw [decide_eq_true hml]
    conv => whnf
    repeat' (first
      | (refine And.intro W1 ?_; conv => whnf)
      | (refine brD (fun _ => ?_) (fun _ => ?_) <;> first | (exfalso; omega) | (conv => whnf))
      | (refine brB (fun _ => ?_) (fun _ => ?_) <;> conv => whnf))
    refine LoopG.w (fun x : Nat => x ≤ ops.length) 37 (fun x => [(0, .imm 2 (opLs ops)), (1, .int .i64 most), (5, .ptr 1 0 0), (6, .int .i64 x)]) (fun x => [⟨0, true, .frame l⟩, ⟨0, true, .cells 26 [.int .i64 0, .int .i64 0, .int .i64 0, .str [], .own 2 0 0 x 6, nilA]⟩, ⟨0, true, .cells 26 (cellsL ((ops.take x).map opO))⟩]) (fun x => ops.length - x) 0 (by omega)
      (Wk.gc [some 0, some 1, none] rfl rfl rfl ⟨⟨_, _, rfl, rfl, .same _ rfl⟩, ⟨_, _, rfl, rfl, .l (by simp [sc]; rfl) ⟨.same _ rfl, .same _ rfl, .same _ rfl, .same _ rfl, .nilOwn 2 0 6 26 rfl rfl, .same _ rfl, trivial⟩⟩, ⟨0, 26, rfl⟩, trivial⟩ ⟨⟨_, rfl, .same _ (by simp [hb, hL])⟩, ⟨_, rfl, .same _ rfl⟩, ⟨_, rfl, .ptr 1 1 0 0 0 _ _ rfl rfl rfl⟩, ⟨_, rfl, .same _ rfl⟩, trivial⟩) ?_
    intro x h1
    by_cases hx : x < ops.length
    · have hg := opLs_at hx
      rw [opE_at] at hg
      have hA : ∀ n0, hbLL n0 (obL ops[x].2) = true := fun n0 => obL_hb _
      have hlen : ((ops.take x).map opO).length = x := by rw [List.length_map, List.length_take]; omega
      have hcl : 0 + x * 6 ≤ (cellsL ((ops.take x).map opO)).length := by rw [cellsL_length, hlen]; omega
      have hcap : (x + 1) * 88 ≤ 70368744177664 := by omega
      conv => whnf
      repeat' (first
        | (rw [hg]; conv => whnf)
        | (refine And.intro W1 ?_; conv => whnf)
        | (refine brD (fun _ => ?_) (fun _ => ?_) <;> first | (exfalso; omega) | (conv => whnf))
        | (refine brB (fun _ => ?_) (fun _ => ?_) <;> conv => whnf)
        | (refine And.intro ⟨rfl, rfl, rfl, hcl, by decide, hcap⟩ ?_; conv => whnf))
      have hG : ∀ (H H' : List Blk) (sel : List (Option Nat)), GcB H H' sel (.cells 26 (((cellsL ((ops.take x).map opO)).drop 0).take (x * 6) ++ [[AV.int .i64 0, .int .i64 0, .int .i64 0, .str ops[x].1, .imm 6 (obL ops[x].2), nilA]].flatten)) (.cells 26 (cellsL ((ops.take (x + 1)).map opO))) := by
        intro H H' sel
        have := gcOne (H := H) (H' := H') (sel := sel) ((ops.take x).map opO) [AV.int .i64 0, .int .i64 0, .int .i64 0, .str ops[x].1, .imm 6 (obL ops[x].2), nilA] (opO ops[x]) ⟨.same _ rfl, .same _ rfl, .same _ rfl, .same _ rfl, .same _ (by simp [hb, hA]), .nil _ _, trivial⟩
        rw [hlen] at this
        rw [List.take_succ_eq_append_getElem hx, List.map_append]
        exact this
      exact ⟨x + 1, ⟨by omega, by omega⟩, Wk.gc [some 0, some 1, some 2] rfl rfl rfl ⟨⟨_, _, rfl, rfl, .same _ rfl⟩, ⟨_, _, rfl, rfl, .l (by simp [sc]; rfl) ⟨.same _ rfl, .same _ rfl, .same _ rfl, .same _ rfl, .own 2 2 1 0 0 _ 6 _ _ rfl rfl rfl, .same _ rfl, trivial⟩⟩, ⟨_, _, rfl, rfl, hG _ _ _⟩, trivial⟩
        ⟨⟨_, rfl, .same _ (by simp [hb, hL])⟩, ⟨_, rfl, .same _ rfl⟩, ⟨_, rfl, .ptr 1 1 0 0 0 _ _ rfl rfl rfl⟩, ⟨_, rfl, .same _ rfl⟩, trivial⟩⟩
    · obtain rfl : x = ops.length := by omega
      rw [List.take_length]
      have hpub : ∀ H, liveCells H 2 0 = some (26, cellsL (ops.map opO)) → Pub H 1 (.agg [.int .i64 0, .int .i64 0, .int .i64 0, .str [], .own 2 0 0 ops.length 6, nilA]) (.agg (obC (allO ops))) := fun H h => by
        have := pubL (ops.map opO) h (show 1 ≤ 2 by decide)
        rw [List.length_map] at this
        exact Pub.aggL ⟨.same _ rfl, .same _ rfl, .same _ rfl, .same _ rfl, this, .nil _ _, trivial⟩ (obC_sc _)
      conv => whnf
      repeat' (first
        | (refine And.intro W1 ?_; conv => whnf)
        | (refine brD (fun _ => ?_) (fun _ => ?_) <;> first | (exfalso; omega) | (conv => whnf))
        | (refine brB (fun _ => ?_) (fun _ => ?_) <;> conv => whnf)
        | (refine CallG.cut (H' := frm l) 1 [] [.agg (obC (allO ops)), .int .i64 most] 37 rfl rfl rfl trivial rfl rfl ⟨hpub _ rfl, .same _ rfl, trivial⟩ (hF.a fun r hr' => ?_); subst hr'; conv => whnf))
      exact RetG.q ⟨rfl, rfl, rfl⟩
  · rw [decide_eq_false hml]
    conv => whnf
    repeat' (first
      | (refine And.intro W1 ?_; conv => whnf)
      | (refine brD (fun _ => ?_) (fun _ => ?_) <;> first | (exfalso; omega) | (conv => whnf))
      | (refine brB (fun _ => ?_) (fun _ => ?_) <;> conv => whnf))
    exact RetG.q ⟨rfl, rfl, rfl⟩

end Ink.D
