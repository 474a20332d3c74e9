import Derived.Test.YtogcalejbddjjaaGreatDoorPCosB
import Derived.Test.YtogcalejbddjjaaGreatDoorPCosA
set_option linter.all false
namespace Ink.D
open Go Go.Proofs
set_option maxRecDepth 100000
variable {E : Env} (hE : E.P = Tryz.prog)

/-! the reference's objects: ref04.Set, whole, number -/
def setG (key : List UInt8) (v : Ob) : List (List UInt8 × Ob) → List (List UInt8 × Ob) → Bool → List (List UInt8 × Ob) × Bool
  | [], acc, b => (acc, b)
  | e :: d, acc, b => if e.1 ≠ key then setG key v d (acc ++ [e]) b else if v.kind ≠ 0 ∧ b = false then setG key v d (acc ++ [(key, v)]) true else setG key v d acc b
def setR (d : List (List UInt8 × Ob)) (key : List UInt8) (v : Ob) : List (List UInt8 × Ob) :=
  if v.kind ≠ 0 ∧ (setG key v d [] false).2 = false then (setG key v d [] false).1 ++ [(key, v)] else (setG key v d [] false).1

theorem pubE7 {H : List Blk} {n i ver : Nat} (F : List (List UInt8 × Ob)) (hl : liveCells H i ver = some (106, cellsD F)) (hi : n ≤ i) : Pub H n (.own i ver 0 F.length 7) (.imm 7 (obD F)) :=
  pubD (X := []) F (by rw [List.append_nil]; exact hl) hi
theorem pubE8 {H : List Blk} {n i ver m : Nat} (F : List (List UInt8 × Ob)) (hm : F.length = m) (hl : liveCells H i ver = some (106, cellsD F)) (hi : n ≤ i) : Pub H n (.own i ver 0 m 7) (.imm 7 (obD F)) := by
  subst hm; exact pubE7 F hl hi
theorem pubSet {H : List Blk} {ver m : Nat} {n f : Int} {s : List UInt8} {l_ : List Ob} (F : List (List UInt8 × Ob)) (hm : F.length = m) (hl : liveCells H 4 ver = some (106, cellsD F)) :
    Pub H 1 (.agg [.int .i64 6, .int .i64 n, .int .i64 f, .str s, .imm 6 (obL l_), .own 4 ver 0 m 7]) (.agg (obC (.mk 6 n f s l_ F))) :=
  Pub.aggL ⟨.same _ rfl, .same _ rfl, .same _ rfl, .same _ rfl, .same _ (by simp [hb, obL_hb]), pubE8 F hm hl (by decide), trivial⟩ (obC_sc _)
theorem setG_same {key : List UInt8} {v : Ob} {e : List UInt8 × Ob} {d acc : List (List UInt8 × Ob)} {b : Bool} (h : e.1 ≠ key) : setG key v (e :: d) acc b = setG key v d (acc ++ [e]) b := by
  rw [setG, if_pos h]
theorem setG_new {key : List UInt8} {v : Ob} {e : List UInt8 × Ob} {d acc : List (List UInt8 × Ob)} (h : e.1 = key) (hv : v.kind ≠ 0) : setG key v (e :: d) acc false = setG key v d (acc ++ [(key, v)]) true := by
  rw [setG, if_neg (by simpa using h), if_pos ⟨hv, rfl⟩]
theorem setG_out {key : List UInt8} {v : Ob} {e : List UInt8 × Ob} {d acc : List (List UInt8 × Ob)} {b : Bool} (h : e.1 = key) (hv : ¬ (v.kind ≠ 0 ∧ b = false)) : setG key v (e :: d) acc b = setG key v d acc b := by
  rw [setG, if_neg (by simpa using h), if_neg hv]

include hE
set_option maxHeartbeats 2000000 in
theorem set59 (n f : Int) (s : List UInt8) (l_ : List Ob) (d : List (List UInt8 × Ob)) (key : List UInt8) (v : Ob) (hd : d.length < big) :
    PCalls E 59 [.agg (obC (.mk 6 n f s l_ d)), .str key, .agg (obC v)] (· = .agg (obC (.mk 6 n f s l_ (setR d key v)))) := by
  have hl := obD_length d
  have hD : ∀ n0, hbLL n0 (obD d) = true := fun n0 => obD_hb d
  have hL : ∀ n0, hbLL n0 (obL l_) = true := fun n0 => obL_hb l_
  have hvb : ∀ n0, hbL n0 (obC v) = true := fun n0 => obC_hb v
  unfold big at hd
  have hR : ∃ R b, setG key v d [] false = (R, b) := ⟨_, _, rfl⟩
  obtain ⟨R, rb, hR⟩ := hR
  obtain ⟨vk, vn, vf, vs, vl, vd⟩ := v
  have hvL : ∀ n0, hbLL n0 (obL vl) = true := fun n0 => obL_hb vl
  have hvD : ∀ n0, hbLL n0 (obD vd) = true := fun n0 => obD_hb vd
  have hF : setR d key (.mk vk vn vf vs vl vd) = if vk ≠ 0 ∧ rb = false then R ++ [(key, .mk vk vn vf vs vl vd)] else R := by
    unfold setR; rw [hR]; rfl
  generalize setR d key (.mk vk vn vf vs vl vd) = F at *
  refine p59 hE (fun l => ?_) (by simp [hbL, hb, hL, hD, hvL, hvD, obC])
  unfold obC at *
  conv => whnf
  repeat' (first
    | (refine And.intro W1 ?_; conv => whnf)
    | (refine brD (fun _ => ?_) (fun _ => ?_) <;> first | (exfalso; omega) | (conv => whnf))
    | (refine brB (fun _ => ?_) (fun _ => ?_) <;> conv => whnf))
  all_goals first | (exfalso; omega) | skip
  refine LoopG.w (fun x : Nat × List (List UInt8 × Ob) × Bool => x.1 ≤ d.length ∧ x.2.1.length ≤ x.1 ∧ setG key (.mk vk vn vf vs vl vd) (d.drop x.1) x.2.1 x.2.2 = (R, rb)) 71 (fun x => [(1, .str key), (3, .ptr 1 0 0), (5, .ptr 2 0 0), (6, .ptr 3 0 0), (7, .own 4 0 0 x.2.1.length 7), (8, .bool x.2.2), (9, .int .i64 x.1)])
    (fun x => [⟨0, true, .frame l⟩, ⟨0, true,   .cells 26 [.int .i64 6, .int .i64 n, .int .i64 f, .str s, .imm 6 (obL l_), .imm 7 (obD d)]⟩, ⟨0, true, .cells 26 [.int .i64 vk, .int .i64 vn, .int .i64 vf, .str vs, .imm 6 (obL vl), .imm 7 (obD vd)]⟩, ⟨0, true, .cells 26 [.int .i64 0, .int .i64 0, .int .i64 0, .str [], nilA, nilA]⟩, ⟨0, true, .cells 106 (cellsD x.2.1)⟩])
    (fun x => d.length - x.1) (0, [], false) ⟨by simp, by simp, by simpa using hR⟩
    (Wk.gc [some 0, some 1, some 2, some 3, none] rfl rfl rfl ⟨⟨_, _, rfl, rfl, .same _ rfl⟩, ⟨_, _, rfl, rfl, .same _ (by simp [bkFree, hbB, hbL, hb, hL, hD])⟩, ⟨_, _, rfl, rfl, .same _ (by simp [bkFree, hbB, hbL, hb, hvL, hvD])⟩, ⟨_, _, rfl, rfl, .same _ rfl⟩, ⟨0, 106, rfl⟩, trivial⟩
      ⟨⟨_, rfl, .same _ rfl⟩, ⟨_, rfl, .ptr 1 1 0 0 0 _ _ rfl rfl rfl⟩, ⟨_, rfl, .ptr 2 2 0 0 0 _ _ rfl rfl rfl⟩, ⟨_, rfl, .ptr 3 3 0 0 0 _ _ rfl rfl rfl⟩, ⟨_, rfl, .nilOwn 4 0 7 106 rfl rfl⟩, ⟨_, rfl, .same _ rfl⟩, ⟨_, rfl, .same _ rfl⟩, trivial⟩) ?_
  clear hR
  rintro ⟨x, acc, b⟩ ⟨hx1, hx2, hR⟩
  simp only at hx1 hx2 hR
  have hcl : 0 + acc.length * 7 ≤ (cellsD acc).length := by rw [cellsD_length]; omega
  have hcap : (acc.length + 1) * 104 ≤ 70368744177664 := by omega
  by_cases hx : x < d.length
  · have hg := obD_get hx
    rw [List.drop_eq_getElem_cons hx] at hR
    generalize d[x] = e at *
    obtain ⟨ek, eo⟩ := e
    obtain ⟨k1, n1, f1, s1, l1, d1⟩ := eo
    unfold obE obC at hg
    have hl1 : ∀ e, (acc ++ [e]).length = acc.length + 1 := by simp
    have hcell : ∀ (a : List UInt8) (k1 n1 f1 : Int) (s1 : List UInt8) (l1 : List Ob) (d1 : List (List UInt8 × Ob)), BK.cells 106 (((cellsD acc).drop 0).take (acc.length * 7) ++ [[AV.str a, .int .i64 k1, .int .i64 n1, .int .i64 f1, .str s1, .imm 6 (obL l1), .imm 7 (obD d1)]].flatten) = BK.cells 106 (cellsD (acc ++ [(a, .mk k1 n1 f1 s1 l1 d1)])) := by
      intros
      rw [List.drop_zero, take_all (cellsD_length acc), cellsD_append]
      simp [cellsD, obD_map, obE, obC]
    by_cases hke : ek = key
    · by_cases hv : vk ≠ 0 ∧ b = false
      · obtain ⟨hv1, rfl⟩ := hv
        rw [setG_new (v := .mk vk vn vf vs vl vd) (e := (ek, .mk k1 n1 f1 s1 l1 d1)) hke hv1] at hR
        conv => whnf
        repeat' (first
          | (rw [hg]; conv => whnf)
          | (refine And.intro W1 ?_; conv => whnf)
          | (refine brD (fun _ => ?_) (fun _ => ?_) <;> first | (exfalso; omega) | (conv => whnf))
          | (refine brB (fun _ => ?_) (fun _ => ?_) <;> conv => whnf)
          | (refine And.intro ⟨rfl, rfl, rfl, hcl, by decide, hcap⟩ ?_; conv => whnf))
        all_goals first | contradiction | (exfalso; simp_all; done) | skip
        exact ⟨(x + 1, acc ++ [(key, .mk vk vn vf vs vl vd)], true), ⟨⟨by simp only; omega, by simp only [hl1]; omega, hR⟩, by simp only; omega⟩,
          Wk.gc [some 0, some 1, some 2, some 3, some 4] rfl rfl rfl ⟨⟨_, _, rfl, rfl, .same _ rfl⟩, ⟨_, _, rfl, rfl, .same _ (by simp [bkFree, hbB, hbL, hb, hL, hD])⟩, ⟨_, _, rfl, rfl, .same _ (by simp [bkFree, hbB, hbL, hb, hvL, hvD])⟩, ⟨_, _, rfl, rfl, .same _ rfl⟩, ⟨_, _, rfl, rfl, .eq (hcell key vk vn vf vs vl vd) (by simp [bkFree, hbB, cellsD_hb])⟩, trivial⟩
          ⟨⟨_, rfl, .same _ rfl⟩, ⟨_, rfl, .ptr 1 1 0 0 0 _ _ rfl rfl rfl⟩, ⟨_, rfl, .ptr 2 2 0 0 0 _ _ rfl rfl rfl⟩, ⟨_, rfl, .ptr 3 3 0 0 0 _ _ rfl rfl rfl⟩, ⟨_, rfl, by simp only [hl1]; exact .own 4 4 1 0 0 _ 7 _ _ rfl rfl rfl⟩, ⟨_, rfl, .same _ rfl⟩, ⟨_, rfl, .same _ rfl⟩, trivial⟩⟩
      · rw [setG_out (v := .mk vk vn vf vs vl vd) (e := (ek, .mk k1 n1 f1 s1 l1 d1)) hke hv] at hR
        conv => whnf
        repeat' (first
          | (rw [hg]; conv => whnf)
          | (refine And.intro W1 ?_; conv => whnf)
          | (refine brD (fun _ => ?_) (fun _ => ?_) <;> first | (exfalso; omega) | (conv => whnf))
          | (refine brB (fun _ => ?_) (fun _ => ?_) <;> conv => whnf)
          | (refine And.intro ⟨rfl, rfl, rfl, hcl, by decide, hcap⟩ ?_; conv => whnf))
        all_goals first | contradiction | (exfalso; simp_all; done) | skip
        all_goals exact ⟨(x + 1, acc, b), ⟨⟨by simp only; omega, by simp only; omega, hR⟩, by simp only; omega⟩,
          Wk.gc [some 0, some 1, some 2, some 3, some 4] rfl rfl rfl ⟨⟨_, _, rfl, rfl, .same _ rfl⟩, ⟨_, _, rfl, rfl, .same _ (by simp [bkFree, hbB, hbL, hb, hL, hD])⟩, ⟨_, _, rfl, rfl, .same _ (by simp [bkFree, hbB, hbL, hb, hvL, hvD])⟩, ⟨_, _, rfl, rfl, .same _ rfl⟩, ⟨_, _, rfl, rfl, .same _ (by simp [bkFree, hbB, cellsD_hb])⟩, trivial⟩
          ⟨⟨_, rfl, .same _ rfl⟩, ⟨_, rfl, .ptr 1 1 0 0 0 _ _ rfl rfl rfl⟩, ⟨_, rfl, .ptr 2 2 0 0 0 _ _ rfl rfl rfl⟩, ⟨_, rfl, .ptr 3 3 0 0 0 _ _ rfl rfl rfl⟩, ⟨_, rfl, .own 4 4 0 0 0 _ 7 _ _ rfl rfl rfl⟩, ⟨_, rfl, .same _ rfl⟩, ⟨_, rfl, .same _ rfl⟩, trivial⟩⟩
    · rw [setG_same (v := .mk vk vn vf vs vl vd) (e := (ek, .mk k1 n1 f1 s1 l1 d1)) hke] at hR
      conv => whnf
      repeat' (first
        | (rw [hg]; conv => whnf)
        | (refine And.intro W1 ?_; conv => whnf)
        | (refine brD (fun _ => ?_) (fun _ => ?_) <;> first | (exfalso; omega) | (conv => whnf))
        | (refine brB (fun _ => ?_) (fun _ => ?_) <;> conv => whnf)
        | (refine And.intro ⟨rfl, rfl, rfl, hcl, by decide, hcap⟩ ?_; conv => whnf))
      all_goals first | contradiction | (exfalso; simp_all; done) | skip
      exact ⟨(x + 1, acc ++ [(ek, .mk k1 n1 f1 s1 l1 d1)], b), ⟨⟨by simp only; omega, by simp only [hl1]; omega, hR⟩, by simp only; omega⟩,
          Wk.gc [some 0, some 1, some 2, some 3, some 4] rfl rfl rfl ⟨⟨_, _, rfl, rfl, .same _ rfl⟩, ⟨_, _, rfl, rfl, .same _ (by simp [bkFree, hbB, hbL, hb, hL, hD])⟩, ⟨_, _, rfl, rfl, .same _ (by simp [bkFree, hbB, hbL, hb, hvL, hvD])⟩, ⟨_, _, rfl, rfl, .same _ rfl⟩, ⟨_, _, rfl, rfl, .eq (hcell ek k1 n1 f1 s1 l1 d1) (by simp [bkFree, hbB, cellsD_hb])⟩, trivial⟩
          ⟨⟨_, rfl, .same _ rfl⟩, ⟨_, rfl, .ptr 1 1 0 0 0 _ _ rfl rfl rfl⟩, ⟨_, rfl, .ptr 2 2 0 0 0 _ _ rfl rfl rfl⟩, ⟨_, rfl, .ptr 3 3 0 0 0 _ _ rfl rfl rfl⟩, ⟨_, rfl, by simp only [hl1]; exact .own 4 4 1 0 0 _ 7 _ _ rfl rfl rfl⟩, ⟨_, rfl, .same _ rfl⟩, ⟨_, rfl, .same _ rfl⟩, trivial⟩⟩
  · have hxe : x = d.length := by omega
    subst hxe
    rw [List.drop_length] at hR
    unfold setG at hR
    cases hR
    have hcc : ((cellsD R).drop 0).take (R.length * 7) ++ [[AV.str key, .int .i64 vk, .int .i64 vn, .int .i64 vf, .str vs, .imm 6 (obL vl), .imm 7 (obD vd)]].flatten = cellsD (R ++ [(key, .mk vk vn vf vs vl vd)]) := by
      rw [List.drop_zero, take_all (cellsD_length R), cellsD_append]
      simp [cellsD, obD_map, obE, obC]
    have hl1 : ∀ e, (R ++ [e]).length = R.length + 1 := by simp
    by_cases hv : vk ≠ 0 ∧ rb = false
    · obtain ⟨hv1, rfl⟩ := hv
      rw [if_pos ⟨hv1, rfl⟩] at hF
      subst hF
      conv => whnf
      repeat' (first
        | (refine And.intro W1 ?_; conv => whnf)
        | (refine brD (fun _ => ?_) (fun _ => ?_) <;> first | (exfalso; omega) | (conv => whnf))
        | (refine brB (fun _ => ?_) (fun _ => ?_) <;> conv => whnf)
        | (refine And.intro ⟨rfl, rfl, rfl, hcl, by decide, hcap⟩ ?_; conv => whnf))
      all_goals first | contradiction | (exfalso; simp_all; done) | skip
      exact RetG.pub (H' := frm l) (pubSet (R ++ [(key, .mk vk vn vf vs vl vd)]) (hl1 _) (congrArg (fun z => some (106, z)) hcc)) rfl rfl ⟨by simp [hb, hbL, obC_hb], rfl, rfl⟩
    · rw [if_neg hv] at hF
      subst hF
      conv => whnf
      repeat' (first
        | (refine And.intro W1 ?_; conv => whnf)
        | (refine brD (fun _ => ?_) (fun _ => ?_) <;> first | (exfalso; omega) | (conv => whnf))
        | (refine brB (fun _ => ?_) (fun _ => ?_) <;> conv => whnf)
        | (refine And.intro ⟨rfl, rfl, rfl, hcl, by decide, hcap⟩ ?_; conv => whnf))
      all_goals first | contradiction | (exfalso; simp_all; done) | skip
      all_goals exact RetG.pub (H' := frm l) (pubSet F rfl rfl) rfl rfl ⟨by simp [hb, hbL, obC_hb], rfl, rfl⟩
end Ink.D
