import Derived.Test.YtogcalejbddjjaaGreatDoorPCosB
import Derived.Test.YtogcalejbddjjaaGreatDoorPLexA
import Derived.Test.YtogcalejbddjjaaGreatDoorPWrA
import Derived.Test.YtogcalejbddjjaaGreatDoorPWrB
import Derived.Test.YtogcalejbddjjaaGreatDoorPCosE
import Derived.Lib.ItoaLen
set_option linter.all false
namespace Ink.D
open Go Go.Proofs
set_option maxRecDepth 100000
variable {E : Env} (hE : E.P = Tryz.prog)

def entL : List (List UInt8) → List (List UInt8 × Ob) → Int
  | _, [] => 0
  | met, e :: r => if e.2.kind = 0 ∨ e.1 ∈ met then 1 else entL (met ++ [e.1]) r

def metK (met : List (List UInt8)) : List (AV × AV) := met.map fun k => (.str k, .bool true)

theorem find_metK (met : List (List UInt8)) (key : List UInt8) : findKV (metK met) (.str key) = if key ∈ met then some (.bool true) else none := by
  induction met with
  | nil => rfl
  | cons a met ih =>
    show (match keyIs (.str key) (.str a) with | true => some (AV.bool true) | false => findKV (metK met) (.str key)) = _
    have hk : keyIs (.str key) (.str a) = decide (key = a) := by simp [keyIs, eq_comm]
    rw [hk]
    by_cases h : key = a
    · subst h; simp
    · simp [h, ih]

theorem set_metK (met : List (List UInt8)) (key : List UInt8) (h : key ∉ met) : setKV (metK met) (.str key) (.bool true) = metK (met ++ [key]) := by
  induction met with
  | nil => rfl
  | cons a met ih =>
    show (match keyIs (.str key) (.str a) with | true => (AV.str key, AV.bool true) :: metK met | false => (AV.str a, AV.bool true) :: setKV (metK met) (.str key) (.bool true)) = _
    have hk : keyIs (.str key) (.str a) = decide (key = a) := by simp [keyIs, eq_comm]
    simp at h
    rw [hk, decide_eq_false h.1]
    simp only
    rw [ih h.2]
    rfl

theorem metK_hb (n : Nat) (met : List (List UInt8)) : hbKV n (metK met) = true := by
  induction met with
  | nil => rfl
  | cons a met ih =>
    show (hb n (.str a) && hb n (.bool true) && hbKV n (metK met)) = true
    rw [ih]; rfl

include hE
theorem entries137 (d : List (List UInt8 × Ob)) (hd : d.length < big) : PCalls E 167 [.imm 7 (obD d)] (· = .int .i64 (entL [] d)) := by
  have hl := obD_length d
  have hD : ∀ n0, hbLL n0 (obD d) = true := fun n0 => obD_hb d
  unfold big at hd
  refine p167 hE (fun l => ?_) (by simp [hbL, hb, hD])
  generalize hR : entL [] d = R
  conv => whnf
  repeat' (first
    | (refine And.intro W1 ?_; conv => whnf)
    | (refine brD (fun _ => ?_) (fun _ => ?_) <;> first | (exfalso; omega) | (conv => whnf))
    | (refine brB (fun _ => ?_) (fun _ => ?_) <;> conv => whnf))
  refine LoopG.s (fun x : Nat => x ≤ d.length ∧ entL ((d.take x).map (·.1)) (d.drop x) = R) 27 (fun x => [(2, .int .i64 0), (3, .map 1 0), (7, .imm 7 (obD d)), (8, .int .i64 (obD d).length), (9, .int .i64 x)]) (fun x => [⟨0, true, .frame l⟩, ⟨0, true, .map (metK ((d.take x).map (·.1)))⟩]) (fun x => d.length - x) 0 ⟨by simp, by simpa using hR⟩ rfl ⟨rfl, rfl, rfl, rfl, rfl⟩ rfl ?_
  clear hR
  rintro x ⟨i1, i2⟩
  by_cases hx : x < d.length
  · have hg := obD_get hx
    rw [List.drop_eq_getElem_cons hx] at i2
    unfold entL at i2
    rw [obE_eq] at hg
    have htk : (d.take (x + 1)).map (·.1) = (d.take x).map (·.1) ++ [d[x].1] := by
      rw [List.take_succ_eq_append_getElem hx, List.map_append]; rfl
    generalize (d.take x).map (·.1) = met at *
    have hf := find_metK met d[x].1
    have hs := set_metK met d[x].1
    generalize d[x].1 = key at *
    generalize d[x].2 = v at *
    obtain ⟨vk, vn, vf, vs, vl, vd⟩ := v
    unfold Ob.kind at i2
    simp only at i2
    unfold obC at hg
    have hko : keysOk true (metK met) (.str key) := ⟨rfl, fun e he => by obtain ⟨k, _, rfl⟩ := List.mem_map.mp he; rfl⟩
    by_cases hv : vk = 0
    · rw [if_pos (.inl hv)] at i2
      conv => whnf
      repeat' (first
        | (rw [hg]; conv => whnf)
        | (refine And.intro W1 ?_; conv => whnf)
        | (refine brD (fun _ => ?_) (fun _ => ?_) <;> first | (exfalso; omega) | (conv => whnf))
        | (refine brB (fun _ => ?_) (fun _ => ?_) <;> conv => whnf))
      exact RetG.drop rfl rfl rfl ⟨rfl, by rw [← i2], rfl⟩
    · by_cases hm : key ∈ met
      · rw [if_pos (.inr hm)] at i2
        have hlook : lookV (metK met) (.str key) (.bool false) = .bool true := by unfold lookV; rw [hf, if_pos hm]
        conv => whnf
        repeat' (first
          | (rw [hg]; conv => whnf)
          | (erw [hlook]; conv => whnf)
          | (refine And.intro W1 ?_; conv => whnf)
          | (refine brD (fun _ => ?_) (fun _ => ?_) <;> first | (exfalso; omega) | (conv => whnf))
          | (refine brB (fun _ => ?_) (fun _ => ?_) <;> conv => whnf)
          | (refine And.intro hko ?_; conv => whnf))
        exact RetG.drop rfl rfl rfl ⟨rfl, by rw [← i2], rfl⟩
      · rw [if_neg (by simp [hv, hm])] at i2
        have hlook : lookV (metK met) (.str key) (.bool false) = .bool false := by unfold lookV; rw [hf, if_neg hm]
        have hs := hs hm
        conv => whnf
        repeat' (first
          | (rw [hg]; conv => whnf)
          | (erw [hlook]; conv => whnf)
          | (erw [hs]; conv => whnf)
          | (refine And.intro W1 ?_; conv => whnf)
          | (refine brD (fun _ => ?_) (fun _ => ?_) <;> first | (exfalso; omega) | (conv => whnf))
          | (refine brB (fun _ => ?_) (fun _ => ?_) <;> conv => whnf)
          | (refine And.intro hko ?_; conv => whnf))
        exact ⟨x + 1, ⟨⟨by omega, by rw [htk]; exact i2⟩, by omega⟩, Wk.cut 2 rfl rfl rfl ⟨⟨_, rfl, .same _ rfl⟩, ⟨_, rfl, .same _ rfl⟩, ⟨_, rfl, .same _ (by simp [hb, hD])⟩, ⟨_, rfl, .same _ rfl⟩, ⟨_, rfl, .same _ rfl⟩, trivial⟩ (by show _ = ([⟨0, true, .frame l⟩, ⟨0, true, .map (metK ((d.take (x + 1)).map (·.1)))⟩] : List Blk); rw [htk]; rfl) (by simp [hbH, hbB, metK_hb])⟩
  · conv => whnf
    repeat' (first
      | (refine And.intro W1 ?_; conv => whnf)
      | (refine brD (fun _ => ?_) (fun _ => ?_) <;> first | (exfalso; omega) | (conv => whnf))
      | (refine brB (fun _ => ?_) (fun _ => ?_) <;> conv => whnf))
    have hxe : x = d.length := by omega
    subst hxe
    rw [List.drop_length] at i2
    exact RetG.drop rfl rfl rfl ⟨rfl, by rw [← i2]; simp [entL], rfl⟩
end Ink.D

namespace Ink.D
open Go Go.Proofs
set_option maxRecDepth 100000
variable {E : Env} (hE : E.P = Tryz.prog)

def shapeF (k n f : Int) (d : List (List UInt8 × Ob)) (deep : Int) : Int :=
  if k = 8 then (if deep > 0 then 1 else entL [] d) else if k = 6 then entL [] d else shapeL k n f

def insL : Ob → List Ob
  | .mk k _ _ _ l d => if k = 5 then l else if k = 6 ∨ k = 8 then d.map (·.2) else []

include hE
theorem shapeF116 (k n f : Int) (s : List UInt8) (l_ : List Ob) (d : List (List UInt8 × Ob)) (deep : Int) (hd : d.length < big) :
    PCalls E 111 [.agg (obC (.mk k n f s l_ d)), .int .i64 deep] (· = .int .i64 (shapeF k n f d deep)) := by
  unfold shapeF
  by_cases h8 : k = 8
  · rw [if_pos h8]
    have he := entries137 hE d hd
    refine p111 hE (fun l => ?_) (by simp [hbL, hb, obC_hb])
    subst h8
    unfold obC
    generalize entL [] d = q at *
    conv => whnf
    repeat' (first
      | (refine And.intro W1 ?_; conv => whnf)
      | (refine brD (fun _ => ?_) (fun _ => ?_) <;> first | (exfalso; omega) | (conv => whnf))
      | (refine brB (fun _ => ?_) (fun _ => ?_) <;> conv => whnf)
      | ((first | refine CallG.e he ?_ | refine CallD.e he ?_ | refine CallQ.e he ?_ | refine CallP.e he ?_); conv => whnf))
    all_goals first | (exfalso; omega) | exact RetG.drop rfl rfl rfl ⟨rfl, by first | rw [if_pos (by omega)] | rw [if_neg (by omega)], rfl⟩
  · rw [if_neg h8]
    by_cases h6 : k = 6
    · rw [if_pos h6]
      have he := entries137 hE d hd
      refine p111 hE (fun l => ?_) (by simp [hbL, hb, obC_hb])
      subst h6
      unfold obC
      generalize entL [] d = q at *
      conv => whnf
      repeat' (first
        | (refine And.intro W1 ?_; conv => whnf)
        | (refine brD (fun _ => ?_) (fun _ => ?_) <;> first | (exfalso; omega) | (conv => whnf))
        | (refine brB (fun _ => ?_) (fun _ => ?_) <;> conv => whnf)
        | ((first | refine CallG.e he ?_ | refine CallD.e he ?_ | refine CallQ.e he ?_ | refine CallP.e he ?_); conv => whnf))
      all_goals first | (exfalso; omega) | exact RetG.drop rfl rfl rfl ⟨rfl, rfl, rfl⟩
    · rw [if_neg h6]
      exact shape hE k n f s l_ d deep h6 h8

set_option maxHeartbeats 1000000 in
theorem insideF (k n f : Int) (s : List UInt8) (l_ : List Ob) (d : List (List UInt8 × Ob)) (hd : d.length < big) :
    PCalls E 113 [.agg (obC (.mk k n f s l_ d))] (· = .imm 6 (obL (insL (.mk k n f s l_ d)))) := by
  have hl := obD_length d
  have hD : ∀ n0, hbLL n0 (obD d) = true := fun n0 => obD_hb d
  have hL : ∀ n0, hbLL n0 (obL l_) = true := fun n0 => obL_hb l_
  unfold big at hd
  refine p113 hE (fun l => ?_) (by simp [hbL, hb, obC_hb])
  have e0 : insL (.mk k n f s l_ d) = if k = 5 then l_ else if k = 6 ∨ k = 8 then d.map (·.2) else [] := rfl
  rw [e0]
  unfold obC
  by_cases h5 : k = 5
  · rw [if_pos h5]
    conv => whnf
    repeat' (first
      | (refine And.intro W1 ?_; conv => whnf)
      | (refine brD (fun _ => ?_) (fun _ => ?_) <;> first | (exfalso; omega) | (conv => whnf))
      | (refine brB (fun _ => ?_) (fun _ => ?_) <;> conv => whnf))
    all_goals first | (exfalso; omega) | exact RetG.drop (by simp [hb, hL]) rfl rfl ⟨by simp [hb, hL], rfl, rfl⟩
  · rw [if_neg h5]
    by_cases h68 : k = 6 ∨ k = 8
    · rw [if_pos h68]
      conv => whnf
      repeat' (first
        | (refine And.intro W1 ?_; conv => whnf)
        | (refine brD (fun _ => ?_) (fun _ => ?_) <;> first | (exfalso; omega) | (conv => whnf))
        | (refine brB (fun _ => ?_) (fun _ => ?_) <;> conv => whnf))
      · refine LoopG.w (fun x : Nat => x ≤ d.length) 29 (fun x => [(3, .own 2 0 0 x 6), (16, .imm 7 (obD d)), (17, .int .i64 (obD d).length), (18, .int .i64 x)])
          (fun x => [⟨0, true, .frame l⟩, ⟨0, true, .cells 26 [.int .i64 k, .int .i64 n, .int .i64 f, .str s, .imm 6 (obL l_), .imm 7 (obD d)]⟩, ⟨0, true, .cells 26 (cellsL ((d.take x).map (·.2)))⟩])
          (fun x => d.length - x) 0 (by omega)
          (Wk.gc [some 0, some 1, none] rfl rfl rfl ⟨⟨_, _, rfl, rfl, .same _ rfl⟩, ⟨_, _, rfl, rfl, .eq rfl (by simp [bkFree, hbB, hbL, hb, hL, hD])⟩, ⟨0, 26, rfl⟩, trivial⟩
            ⟨⟨_, rfl, .nilOwn 2 0 6 26 rfl rfl⟩, ⟨_, rfl, .same _ (by simp [hb, hD])⟩, ⟨_, rfl, .same _ rfl⟩, ⟨_, rfl, .same _ rfl⟩, trivial⟩) ?_
        intro x h1
        by_cases hx : x < d.length
        · have hg := obD_get hx
          rw [obE_eq] at hg
          have htk : (d.take (x + 1)).map (·.2) = (d.take x).map (·.2) ++ [d[x].2] := by
            rw [List.take_succ_eq_append_getElem hx, List.map_append]; rfl
          have hxl : ((d.take x).map (·.2)).length = x := by simp; omega
          generalize (d.take x).map (·.2) = acc at *
          generalize d[x].1 = ka at *
          generalize d[x].2 = v at *
          obtain ⟨vk, vn, vf, vs, vl, vd⟩ := v
          unfold obC at hg
          have hcl : 0 + x * 6 ≤ (cellsL acc).length := by rw [cellsL_length]; omega
          have hcap : (x + 1) * 88 ≤ 70368744177664 := by omega
          conv => whnf
          repeat' (first
            | (rw [hg]; conv => whnf)
            | (refine And.intro W1 ?_; conv => whnf)
            | (refine brD (fun _ => ?_) (fun _ => ?_) <;> first | (exfalso; omega) | (conv => whnf))
            | (refine brB (fun _ => ?_) (fun _ => ?_) <;> conv => whnf)
            | (refine And.intro ⟨rfl, rfl, rfl, hcl, by decide, hcap⟩ ?_; conv => whnf))
          have hcell : BK.cells 26 (((cellsL acc).drop 0).take (x * 6) ++ [[AV.int .i64 vk, .int .i64 vn, .int .i64 vf, .str vs, .imm 6 (obL vl), .imm 7 (obD vd)]].flatten) = BK.cells 26 (cellsL ((d.take (x + 1)).map (·.2))) := by
            rw [List.drop_zero, take_all (by rw [cellsL_length, hxl]), htk, cellsL_append]; rfl
          exact ⟨x + 1, ⟨by omega, by omega⟩, Wk.gc [some 0, some 1, some 2] rfl rfl rfl ⟨⟨_, _, rfl, rfl, .same _ rfl⟩, ⟨_, _, rfl, rfl, .eq rfl (by simp [bkFree, hbB, hbL, hb, hL, hD])⟩, ⟨_, _, rfl, rfl, .eq hcell (by simp [bkFree, hbB, cellsL_hb])⟩, trivial⟩
            ⟨⟨_, rfl, .own 2 2 1 0 0 _ 6 _ _ rfl rfl rfl⟩, ⟨_, rfl, .same _ (by simp [hb, hD])⟩, ⟨_, rfl, .same _ rfl⟩, ⟨_, rfl, .same _ rfl⟩, trivial⟩⟩
        · conv => whnf
          repeat' (first
            | (refine And.intro W1 ?_; conv => whnf)
            | (refine brD (fun _ => ?_) (fun _ => ?_) <;> first | (exfalso; omega) | (conv => whnf))
            | (refine brB (fun _ => ?_) (fun _ => ?_) <;> conv => whnf))
          have hxe : x = d.length := by omega
          subst hxe
          rw [List.take_length]
          have hml : d.length = (d.map (·.2)).length := by simp
          rw [hml]
          exact RetG.pub (r' := .imm 6 (obL (d.map (·.2)))) (H' := frm l) (pubL (d.map (·.2)) rfl (show 1 ≤ 2 by decide)) rfl rfl ⟨by simp [hb, obL_hb], rfl, rfl⟩
      · refine LoopG.w (fun x : Nat => x ≤ d.length) 29 (fun x => [(3, .own 2 0 0 x 6), (16, .imm 7 (obD d)), (17, .int .i64 (obD d).length), (18, .int .i64 x)])
          (fun x => [⟨0, true, .frame l⟩, ⟨0, true, .cells 26 [.int .i64 k, .int .i64 n, .int .i64 f, .str s, .imm 6 (obL l_), .imm 7 (obD d)]⟩, ⟨0, true, .cells 26 (cellsL ((d.take x).map (·.2)))⟩])
          (fun x => d.length - x) 0 (by omega)
          (Wk.gc [some 0, some 1, none] rfl rfl rfl ⟨⟨_, _, rfl, rfl, .same _ rfl⟩, ⟨_, _, rfl, rfl, .eq rfl (by simp [bkFree, hbB, hbL, hb, hL, hD])⟩, ⟨0, 26, rfl⟩, trivial⟩
            ⟨⟨_, rfl, .nilOwn 2 0 6 26 rfl rfl⟩, ⟨_, rfl, .same _ (by simp [hb, hD])⟩, ⟨_, rfl, .same _ rfl⟩, ⟨_, rfl, .same _ rfl⟩, trivial⟩) ?_
        intro x h1
        by_cases hx : x < d.length
        · have hg := obD_get hx
          rw [obE_eq] at hg
          have htk : (d.take (x + 1)).map (·.2) = (d.take x).map (·.2) ++ [d[x].2] := by
            rw [List.take_succ_eq_append_getElem hx, List.map_append]; rfl
          have hxl : ((d.take x).map (·.2)).length = x := by simp; omega
          generalize (d.take x).map (·.2) = acc at *
          generalize d[x].1 = ka at *
          generalize d[x].2 = v at *
          obtain ⟨vk, vn, vf, vs, vl, vd⟩ := v
          unfold obC at hg
          have hcl : 0 + x * 6 ≤ (cellsL acc).length := by rw [cellsL_length]; omega
          have hcap : (x + 1) * 88 ≤ 70368744177664 := by omega
          conv => whnf
          repeat' (first
            | (rw [hg]; conv => whnf)
            | (refine And.intro W1 ?_; conv => whnf)
            | (refine brD (fun _ => ?_) (fun _ => ?_) <;> first | (exfalso; omega) | (conv => whnf))
            | (refine brB (fun _ => ?_) (fun _ => ?_) <;> conv => whnf)
            | (refine And.intro ⟨rfl, rfl, rfl, hcl, by decide, hcap⟩ ?_; conv => whnf))
          have hcell : BK.cells 26 (((cellsL acc).drop 0).take (x * 6) ++ [[AV.int .i64 vk, .int .i64 vn, .int .i64 vf, .str vs, .imm 6 (obL vl), .imm 7 (obD vd)]].flatten) = BK.cells 26 (cellsL ((d.take (x + 1)).map (·.2))) := by
            rw [List.drop_zero, take_all (by rw [cellsL_length, hxl]), htk, cellsL_append]; rfl
          exact ⟨x + 1, ⟨by omega, by omega⟩, Wk.gc [some 0, some 1, some 2] rfl rfl rfl ⟨⟨_, _, rfl, rfl, .same _ rfl⟩, ⟨_, _, rfl, rfl, .eq rfl (by simp [bkFree, hbB, hbL, hb, hL, hD])⟩, ⟨_, _, rfl, rfl, .eq hcell (by simp [bkFree, hbB, cellsL_hb])⟩, trivial⟩
            ⟨⟨_, rfl, .own 2 2 1 0 0 _ 6 _ _ rfl rfl rfl⟩, ⟨_, rfl, .same _ (by simp [hb, hD])⟩, ⟨_, rfl, .same _ rfl⟩, ⟨_, rfl, .same _ rfl⟩, trivial⟩⟩
        · conv => whnf
          repeat' (first
            | (refine And.intro W1 ?_; conv => whnf)
            | (refine brD (fun _ => ?_) (fun _ => ?_) <;> first | (exfalso; omega) | (conv => whnf))
            | (refine brB (fun _ => ?_) (fun _ => ?_) <;> conv => whnf))
          have hxe : x = d.length := by omega
          subst hxe
          rw [List.take_length]
          have hml : d.length = (d.map (·.2)).length := by simp
          rw [hml]
          exact RetG.pub (r' := .imm 6 (obL (d.map (·.2)))) (H' := frm l) (pubL (d.map (·.2)) rfl (show 1 ≤ 2 by decide)) rfl rfl ⟨by simp [hb, obL_hb], rfl, rfl⟩
    · rw [if_neg h68]
      conv => whnf
      repeat' (first
        | (refine And.intro W1 ?_; conv => whnf)
        | (refine brD (fun _ => ?_) (fun _ => ?_) <;> first | (exfalso; omega) | (conv => whnf))
        | (refine brB (fun _ => ?_) (fun _ => ?_) <;> conv => whnf))
      all_goals first | (exfalso; omega) | exact RetG.pub (r' := .imm 6 (obL [])) (H' := frm l) (.nil _ _) rfl rfl ⟨by simp [hb, obL, hbLL], rfl, rfl⟩
end Ink.D

namespace Ink.D
open Go Go.Proofs
set_option maxRecDepth 100000
variable {E : Env} (hE : E.P = Tryz.prog)

mutual
def saneF : Ob → Int → Int
  | .mk k n f _ l d, deep => if shapeF k n f d deep ≠ 0 then shapeF k n f d deep else if sizeL k n f l.length d.length deep ≠ 0 then sizeL k n f l.length d.length deep
    else if k = 5 then saneFs l (deep + 1) else if k = 6 ∨ k = 8 then saneFd d (deep + 1) else 0
def saneFs : List Ob → Int → Int
  | [], _ => 0
  | o :: r, deep => if saneF o deep ≠ 0 then saneF o deep else saneFs r deep
def saneFd : List (List UInt8 × Ob) → Int → Int
  | [], _ => 0
  | e :: r, deep => if saneFe e deep ≠ 0 then saneFe e deep else saneFd r deep
def saneFe : List UInt8 × Ob → Int → Int
  | (_, o), deep => saneF o deep
end

theorem saneFd_eq (d : List (List UInt8 × Ob)) (deep : Int) : saneFd d deep = saneFs (d.map (·.2)) deep := by
  induction d with
  | nil => simp [saneFd, saneFs]
  | cons e d ih =>
    obtain ⟨a, o⟩ := e
    simp only [saneFd, saneFs, saneFe, List.map_cons, ih]

theorem saneF_eq (k n f : Int) (s : List UInt8) (l : List Ob) (d : List (List UInt8 × Ob)) (deep : Int) : saneF (.mk k n f s l d) deep =
    if shapeF k n f d deep ≠ 0 then shapeF k n f d deep else if sizeL k n f l.length d.length deep ≠ 0 then sizeL k n f l.length d.length deep else saneFs (insL (.mk k n f s l d)) (deep + 1) := by
  rw [saneF]
  have e0 : insL (.mk k n f s l d) = if k = 5 then l else if k = 6 ∨ k = 8 then d.map (·.2) else [] := rfl
  rw [e0]
  by_cases h5 : k = 5
  · rw [if_pos h5, if_pos h5]
  · by_cases h6 : k = 6 ∨ k = 8
    · rw [if_neg h5, if_neg h5, if_pos h6, if_pos h6, saneFd_eq]
    · rw [if_neg h5, if_neg h5, if_neg h6, if_neg h6]
      rw [saneFs]

theorem saneFs_append (deep : Int) : ∀ (a b : List Ob), saneFs (a ++ b) deep = if saneFs a deep ≠ 0 then saneFs a deep else saneFs b deep
  | [], b => by simp [saneFs]
  | o :: r, b => by
    simp only [List.cons_append, saneFs, saneFs_append deep r b]
    split <;> simp_all

theorem saneFs_hit {l : List Ob} {deep : Int} {x : Nat} (hx : x < l.length) (h0 : saneFs (l.take x) deep = 0) (h1 : saneF l[x] deep ≠ 0) : saneFs l deep = saneF l[x] deep := by
  conv => lhs; rw [← List.take_append_drop x l, List.drop_eq_getElem_cons hx]
  rw [saneFs_append, if_neg (by simp [h0]), saneFs, if_pos h1]

theorem saneFs_next {l : List Ob} {deep : Int} {x : Nat} (hx : x < l.length) (h0 : saneFs (l.take x) deep = 0) (h1 : saneF l[x] deep = 0) : saneFs (l.take (x + 1)) deep = 0 := by
  rw [List.take_succ_eq_append_getElem hx, saneFs_append, if_neg (by simp [h0])]
  simp [saneFs, h1]

theorem insL_mem {o : Ob} {x : Ob} (h : x ∈ insL o) : sizeOf x < sizeOf o ∧ countO x ≤ countO o := by
  obtain ⟨k, n, f, s, l, d⟩ := o
  have e0 : insL (.mk k n f s l d) = if k = 5 then l else if k = 6 ∨ k = 8 then d.map (·.2) else [] := rfl
  rw [e0] at h
  split at h
  · have h1 := List.sizeOf_lt_of_mem h
    have h2 := countO_mem h
    simp only [countO]
    exact ⟨by simp; omega, by omega⟩
  · split at h
    · obtain ⟨e, he, rfl⟩ := List.mem_map.mp h
      have h1 := List.sizeOf_lt_of_mem he
      have h2 := countD_mem he
      have h3 : sizeOf e.2 < sizeOf e := by obtain ⟨a, o⟩ := e; simp; omega
      simp only [countO]
      exact ⟨by simp; omega, by omega⟩
    · simp at h

theorem insL_len (k n f : Int) (s : List UInt8) (l : List Ob) (d : List (List UInt8 × Ob)) : (insL (.mk k n f s l d)).length ≤ l.length + d.length := by
  have e0 : insL (.mk k n f s l d) = if k = 5 then l else if k = 6 ∨ k = 8 then d.map (·.2) else [] := rfl
  rw [e0]
  split
  · omega
  · split
    · simp
    · simp

include hE
set_option maxHeartbeats 1000000 in
theorem saneF90 : ∀ (m : Nat) (o : Ob), sizeOf o < m → countO o < big → ∀ deep, 0 ≤ deep → deep ≤ 64 → PCalls E 62 [.agg (obC o), .int .i64 deep] (· = .int .i64 (saneF o deep))
  | 0, _, h, _, _, _, _ => absurd h (Nat.not_lt_zero _)
  | m + 1, .mk k n f s l_ d, hm, hc, deep, hd0, hd1 => by
    have hll := countL_len l_
    have hdl := countD_len d
    have hc' : countL l_ + countD d + 1 < big := by simp only [countO] at hc; omega
    have hSh := shapeF116 hE k n f s l_ d deep (by omega)
    have hSz := size hE k n f s l_ d deep (by omega) (by omega)
    have hIn := insideF hE k n f s l_ d (by omega)
    have hil := insL_len k n f s l_ d
    have hsz0 : 0 < (insL (.mk k n f s l_ d)).length → sizeL k n f l_.length d.length deep = 0 → deep < 64 := by
      intro h5 h
      have hk : k = 5 ∨ k = 6 ∨ k = 8 := by
        rcases Decidable.em (k = 5 ∨ k = 6 ∨ k = 8) with h | h
        · exact h
        · have e0 : insL (.mk k n f s l_ d) = if k = 5 then l_ else if k = 6 ∨ k = 8 then d.map (·.2) else [] := rfl
          rw [e0, if_neg (by omega), if_neg (by omega)] at h5
          simp at h5
      unfold sizeL at h
      (repeat' split at h) <;> omega
    have ih : ∀ (x : Nat) (hx : x < (insL (.mk k n f s l_ d)).length), 0 ≤ deep + 1 → deep + 1 ≤ 64 → PCalls E 62 [.agg (obC (insL (.mk k n f s l_ d))[x]), .int .i64 (deep + 1)] (· = .int .i64 (saneF (insL (.mk k n f s l_ d))[x] (deep + 1))) := fun x hx a b => by
      have h1 := insL_mem (List.getElem_mem hx)
      exact saneF90 m _ (by omega) (by omega) _ a b
    rw [saneF_eq]
    generalize insL (.mk k n f s l_ d) = I at *
    have hlen := obL_len I
    have hit := fun (x : Nat) (hx : x < I.length) => saneFs_hit (deep := deep + 1) hx
    have nxt := fun (x : Nat) (hx : x < I.length) => saneFs_next (deep := deep + 1) hx
    have hI : ∀ n0, hbLL n0 (obL I) = true := fun n0 => obL_hb I
    have hL : ∀ n0, hbLL n0 (obL l_) = true := fun n0 => obL_hb l_
    have hD : ∀ n0, hbLL n0 (obD d) = true := fun n0 => obD_hb d
    refine p62 hE (fun l => ?_) (by simp [hbL, hb, obC_hb])
    unfold obC at hSh hSz hIn ⊢
    unfold big at hc' hc
    generalize shapeF k n f d deep = e1 at *
    conv => whnf
    repeat' (first
      | (refine And.intro W1 ?_; conv => whnf)
      | (refine brD (fun _ => ?_) (fun _ => ?_) <;> first | (exfalso; omega) | (conv => whnf))
      | (refine brB (fun _ => ?_) (fun _ => ?_) <;> conv => whnf)
      | ((first | refine CallG.e hSh ?_ | refine CallD.e hSh ?_ | refine CallQ.e hSh ?_ | refine CallP.e hSh ?_); conv => whnf)
      | ((first | refine CallG.e hSz ?_ | refine CallD.e hSz ?_ | refine CallQ.e hSz ?_ | refine CallP.e hSz ?_); conv => whnf)
      | ((first | refine CallG.e hIn ?_ | refine CallD.e hIn ?_ | refine CallQ.e hIn ?_ | refine CallP.e hIn ?_); conv => whnf))
    · exact RetG.drop rfl rfl rfl ⟨rfl, by rw [if_pos (by assumption)], rfl⟩
    · exact RetG.drop rfl rfl rfl ⟨rfl, by rw [if_neg (by assumption), if_pos (by assumption)], rfl⟩
    rename_i h1 h2
    rw [if_neg h1, if_neg h2]
    refine LoopG.s (fun x : Nat => x ≤ I.length ∧ saneFs (I.take x) (deep + 1) = 0) 37 (fun x => [(1, .int .i64 deep), (2, .ptr 1 0 0), (4, .int .i64 0), (23, .imm 6 (obL I)), (24, .int .i64 (obL I).length), (25, .int .i64 x)]) (fun _ => [⟨0, true, .frame l⟩, ⟨0, true, .cells 26 [.int .i64 k, .int .i64 n, .int .i64 f, .str s, .imm 6 (obL l_), .imm 7 (obD d)]⟩]) (fun x => I.length - x) 0 ⟨by simp, by simp [saneFs]⟩ rfl ⟨rfl, rfl, rfl, rfl, rfl, rfl⟩ rfl ?_
    rintro x ⟨i1, i2⟩
    by_cases hx : x < I.length
    · have hdp := hsz0 (by omega) (Decidable.not_not.mp h2)
      have hg := obL_at hx
      have hC := ih x hx (by omega) (by omega)
      have hh := hit x hx i2
      have hn := nxt x hx i2
      have hcl : ∃ c0 c1 c2 c3 c4 c5, obC I[x] = [c0, c1, c2, c3, c4, c5] := by cases I[x]; exact ⟨_, _, _, _, _, _, rfl⟩
      obtain ⟨c0, c1, c2, c3, c4, c5, hc⟩ := hcl
      rw [hc] at hg hC
      generalize saneF I[x] (deep + 1) = e at *
      conv => whnf
      repeat' (first
        | (rw [hg]; conv => whnf)
        | (refine And.intro W1 ?_; conv => whnf)
        | (refine brD (fun _ => ?_) (fun _ => ?_) <;> first | (exfalso; omega) | (conv => whnf))
        | (refine brB (fun _ => ?_) (fun _ => ?_) <;> conv => whnf)
        | ((first | refine CallG.e hC ?_ | refine CallD.e hC ?_ | refine CallQ.e hC ?_ | refine CallP.e hC ?_); conv => whnf))
      · exact RetG.drop rfl rfl rfl ⟨rfl, by rw [hh (by assumption)], rfl⟩
      · exact ⟨x + 1, ⟨⟨by omega, hn (by omega)⟩, by omega⟩, Wk.cut 2 rfl rfl rfl ⟨⟨_, rfl, .same _ rfl⟩, ⟨_, rfl, .same _ rfl⟩, ⟨_, rfl, .same _ rfl⟩, ⟨_, rfl, .same _ (hI 2)⟩, ⟨_, rfl, .same _ rfl⟩, ⟨_, rfl, .same _ rfl⟩, trivial⟩ rfl (by simp [hbH, hbB, hbL, hb, hL, hD])⟩
    · conv => whnf
      repeat' (first
        | (refine And.intro W1 ?_; conv => whnf)
        | (refine brD (fun _ => ?_) (fun _ => ?_) <;> first | (exfalso; omega) | (conv => whnf))
        | (refine brB (fun _ => ?_) (fun _ => ?_) <;> conv => whnf))
      have : x = I.length := by omega
      subst this
      rw [List.take_length] at i2
      exact RetG.drop rfl rfl rfl ⟨rfl, by rw [i2], rfl⟩
end Ink.D

namespace Ink.D
open Go Go.Proofs
set_option maxRecDepth 100000
variable {E : Env} (hE : E.P = Tryz.prog)

def errF (o : Ob) : Int := if saneF o 0 ≠ 0 then saneF o 0 else if o.kind = 8 then 1 else 0
def objAVF (o : Ob) : AV := if errF o = 0 then .tup [.str (txt o), .int .i64 0] else .tup [.str [], .int .i64 (errF o)]

include hE
theorem saneF60 (o : Ob) (hc : countO o < big) : PCalls E 23 [.agg (obC o)] (· = .int .i64 (saneF o 0)) := by
  have h := saneF90 hE _ o (Nat.lt_succ_self _) hc 0 (by decide) (by decide)
  refine p23 hE (fun l => ?_) (by simp [hbL, hb, obC_hb])
  cases o with
  | mk k n f s l_ d =>
    unfold obC at h ⊢
    conv => whnf
    repeat' (first
      | (refine And.intro W1 ?_; conv => whnf)
      | (refine brD (fun _ => ?_) (fun _ => ?_) <;> first | (exfalso; omega) | (conv => whnf))
      | (refine brB (fun _ => ?_) (fun _ => ?_) <;> conv => whnf)
      | ((first | refine CallG.e h ?_ | refine CallD.e h ?_ | refine CallQ.e h ?_ | refine CallP.e h ?_); conv => whnf))
    exact RetG.drop rfl rfl rfl ⟨rfl, rfl, rfl⟩

theorem objectF (hT : TabE E) (o : Ob) (hc : countO o < big) (hok : errF o = 0 → okW o = true ∧ (txt o).length < 1000000000) : PCalls E 19 [.agg (obC o)] (· = objAVF o) := by
  have hS := saneF60 hE o hc
  have hhb := obC_hb (n0 := 0) o
  refine p19 hE (fun l => ?_) (by simp [hbL, hb, obC_hb])
  unfold objAVF
  by_cases h0 : errF o = 0
  · rw [if_pos h0]
    obtain ⟨k1, k2⟩ := hok h0
    have hs0 : saneF o 0 = 0 ∧ o.kind ≠ 8 := by
      unfold errF at h0
      split at h0
      · rename_i h; exact absurd h0 h
      · rename_i h
        split at h0
        · omega
        · rename_i h2; exact ⟨Decidable.not_not.mp h, h2⟩
    rw [hs0.1] at hS
    have hP := put hE hT _ o (Nat.lt_succ_self _) k1 [] (by simpa using k2)
    rw [List.nil_append] at hP
    have hStr := string hE (txt o) k2
    generalize txt o = T at *
    cases o with
    | mk k n f s l_ d =>
      have h8 := hs0.2
      unfold Ob.kind at h8
      simp only at h8
      unfold obC at hP hS hhb ⊢
      conv => whnf
      repeat' (first
        | (refine And.intro W1 ?_; conv => whnf)
        | (refine brD (fun _ => ?_) (fun _ => ?_) <;> first | (exfalso; omega) | (conv => whnf))
        | (refine brB (fun _ => ?_) (fun _ => ?_) <;> conv => whnf)
        | ((first | refine CallG.e hS ?_ | refine CallD.e hS ?_ | refine CallQ.e hS ?_ | refine CallP.e hS ?_); conv => whnf)
        | (refine CallG.b [(2, 0)] hP ⟨rfl, trivial⟩ ⟨.ptr 0 2 0 0 rfl, .same _ hhb, trivial⟩ (fun r ks' hq _ _ => ?_); obtain ⟨rfl, rfl⟩ := hq; conv => whnf)
        | (refine CallG.b [(2, 0)] hStr ⟨rfl, trivial⟩ ⟨.ptr 0 2 0 0 rfl, trivial⟩ (fun r ks' hq _ _ => ?_); obtain ⟨rfl, rfl⟩ := hq; conv => whnf))
      all_goals first | (exfalso; omega) | exact RetG.drop rfl rfl rfl ⟨rfl, rfl, rfl⟩
  · rw [if_neg h0]
    unfold errF at h0 ⊢
    cases o with
    | mk k n f s l_ d =>
      unfold Ob.kind at h0 ⊢
      simp only at h0 ⊢
      unfold obC at hS ⊢
      generalize saneF (.mk k n f s l_ d) 0 = e at *
      by_cases he : e = 0
      · subst he
        rw [if_neg (by simp)] at h0 ⊢
        have h8 : k = 8 := by
          rcases Decidable.em (k = 8) with h | h
          · exact h
          · rw [if_neg h] at h0; omega
        rw [if_pos h8]
        conv => whnf
        repeat' (first
          | (refine And.intro W1 ?_; conv => whnf)
          | (refine brD (fun _ => ?_) (fun _ => ?_) <;> first | (exfalso; omega) | (conv => whnf))
          | (refine brB (fun _ => ?_) (fun _ => ?_) <;> conv => whnf)
          | ((first | refine CallG.e hS ?_ | refine CallD.e hS ?_ | refine CallQ.e hS ?_ | refine CallP.e hS ?_); conv => whnf))
        all_goals first | (exfalso; omega) | exact RetG.drop rfl rfl rfl ⟨rfl, rfl, rfl⟩
      · rw [if_pos he]
        conv => whnf
        repeat' (first
          | (refine And.intro W1 ?_; conv => whnf)
          | (refine brD (fun _ => ?_) (fun _ => ?_) <;> first | (exfalso; omega) | (conv => whnf))
          | (refine brB (fun _ => ?_) (fun _ => ?_) <;> conv => whnf)
          | ((first | refine CallG.e hS ?_ | refine CallD.e hS ?_ | refine CallQ.e hS ?_ | refine CallP.e hS ?_); conv => whnf))
        all_goals first | (exfalso; omega) | exact RetG.drop rfl rfl rfl ⟨rfl, rfl, rfl⟩
end Ink.D

namespace Ink.D
open Go Go.Proofs
set_option maxRecDepth 100000

mutual
def bulkO : Ob → Nat
  | .mk _ _ _ s l d => 1 + s.length + bulkL l + bulkD d
def bulkL : List Ob → Nat
  | [] => 0
  | o :: r => bulkO o + bulkL r
def bulkD : List (List UInt8 × Ob) → Nat
  | [] => 0
  | e :: r => bulkE e + bulkD r
def bulkE : List UInt8 × Ob → Nat
  | (a, o) => a.length + bulkO o
end

theorem few_bulk : ∀ (N : Nat) (o : Ob) (left deep : Int), sizeOf o < N → 0 ≤ fewO o left deep → (bulkO o : Int) + fewO o left deep ≤ left
  | 0, _, _, _, h, _ => by omega
  | N + 1, .mk k n f s l d, left, deep, h, hp => by
    have hL : ∀ (l : List Ob), sizeOf l < N + 1 → ∀ left deep, 0 ≤ fewL l left deep → (bulkL l : Int) + fewL l left deep ≤ left := by
      intro l
      induction l with
      | nil => intro _ left deep _; simp [fewL, bulkL]
      | cons o r ih =>
        intro hs left deep hq
        simp at hs
        unfold fewL at hq ⊢
        by_cases h0 : 0 ≤ left
        · rw [if_pos h0] at hq ⊢
          have h2 := ih (by omega) (fewO o left deep) deep hq
          have h3 : 0 ≤ fewO o left deep := by
            rcases Int.lt_or_le (fewO o left deep) 0 with h | h
            · rw [fewL_neg h] at hq; omega
            · exact h
          have h1 := few_bulk N o left deep (by omega) h3
          simp only [bulkL]
          omega
        · rw [if_neg h0] at hq; omega
    have hD : ∀ (l : List (List UInt8 × Ob)), sizeOf l < N + 1 → ∀ left deep, 0 ≤ fewD l left deep → (bulkD l : Int) + fewD l left deep ≤ left := by
      intro l
      induction l with
      | nil => intro _ left deep _; simp [fewD, bulkD]
      | cons e r ih =>
        intro hs left deep hq
        obtain ⟨a, o⟩ := e
        simp at hs
        unfold fewD at hq ⊢
        by_cases h0 : 0 ≤ left
        · rw [if_pos h0] at hq ⊢
          have h2 := ih (by omega) (fewE (a, o) left deep) deep hq
          have h3 : 0 ≤ fewE (a, o) left deep := by
            rcases Int.lt_or_le (fewE (a, o) left deep) 0 with h | h
            · rw [fewD_neg h] at hq; omega
            · exact h
          have e : fewE (a, o) left deep = fewO o (left - a.length) deep := rfl
          rw [e] at h3
          have h1 := few_bulk N o (left - a.length) deep (by omega) h3
          simp only [bulkD, bulkE]
          omega
        · rw [if_neg h0] at hq; omega
    simp at h
    have e0 : fewO (.mk k n f s l d) left deep = if deep > 200 then -1 else fewD d (fewL l (left - 1 - s.length) (deep + 1)) (deep + 1) := by simp [fewO]
    rw [e0] at hp ⊢
    by_cases hdp : deep > 200
    · rw [if_pos hdp] at hp; omega
    · rw [if_neg hdp] at hp ⊢
      have h2 := hD d (by omega) _ _ hp
      have h3 : 0 ≤ fewL l (left - 1 - s.length) (deep + 1) := by
        rcases Int.lt_or_le (fewL l (left - 1 - s.length) (deep + 1)) 0 with h | h
        · rw [fewD_neg h] at hp; omega
        · exact h
      have h1 := hL l (by omega) _ _ h3
      simp only [bulkO]
      omega

theorem bulkL_len (l : List Ob) : l.length ≤ bulkL l := by
  induction l with
  | nil => simp
  | cons o l ih => cases o; simp [bulkL, bulkO]; omega
theorem bulkD_len (l : List (List UInt8 × Ob)) : l.length ≤ bulkD l := by
  induction l with
  | nil => simp
  | cons e l ih => obtain ⟨a, o⟩ := e; cases o; simp [bulkD, bulkE, bulkO]; omega

theorem okW_of : ∀ (N : Nat) (o : Ob) (deep : Int), sizeOf o < N → saneF o deep = 0 → bulkO o ≤ 100000 → okW o = true
  | 0, _, _, h, _, _ => by omega
  | N + 1, .mk k n f s l d, deep, h, hs, hb => by
    have hll := bulkL_len l
    have hdl := bulkD_len d
    simp only [bulkO] at hb
    simp at h
    rw [saneF] at hs
    by_cases h1 : shapeF k n f d deep = 0
    · rw [if_neg (by simp [h1])] at hs
      by_cases h2 : sizeL k n f l.length d.length deep = 0
      · rw [if_neg (by simp [h2])] at hs
        have hf : ¬ (k = 2 ∨ k = 7) ∨ mayF f = true := by
          unfold sizeL at h2
          split at h2
          · omega
          · rename_i h3
            by_cases hk : k = 2 ∨ k = 7
            · right
              cases hm : mayF f with
              | true => rfl
              | false => exact absurd (by rcases hk with hk | hk; exact .inl ⟨hk, hm⟩; exact .inr ⟨hk, .inl hm⟩) h3
            · exact .inl hk
        have hL : ∀ (l : List Ob), sizeOf l < N + 1 → bulkL l ≤ 100000 → saneFs l (deep + 1) = 0 → okWs l = true := by
          intro l
          induction l with
          | nil => intro _ _ _; rfl
          | cons o r ih =>
            intro hz hb hs
            simp at hz
            simp only [bulkL] at hb
            unfold saneFs at hs
            by_cases h3 : saneF o (deep + 1) = 0
            · rw [if_neg (by simp [h3])] at hs
              simp only [okWs, Bool.and_eq_true]
              exact ⟨okW_of N o (deep + 1) (by omega) h3 (by omega), ih (by omega) (by omega) hs⟩
            · rw [if_pos h3] at hs; exact absurd hs h3
        have hD : ∀ (l : List (List UInt8 × Ob)), sizeOf l < N + 1 → bulkD l ≤ 100000 → saneFd l (deep + 1) = 0 → okWd l = true := by
          intro l
          induction l with
          | nil => intro _ _ _; rfl
          | cons e r ih =>
            intro hz hb hs
            obtain ⟨a, o⟩ := e
            simp at hz
            simp only [bulkD, bulkE] at hb
            unfold saneFd saneFe at hs
            by_cases h3 : saneF o (deep + 1) = 0
            · rw [if_neg (by simp [h3])] at hs
              simp only [okWd, okWe, Bool.and_eq_true, decide_eq_true_eq]
              exact ⟨⟨by omega, okW_of N o (deep + 1) (by omega) h3 (by omega)⟩, ih (by omega) (by omega) hs⟩
            · rw [if_pos h3] at hs; exact absurd hs h3
        simp only [okW, Bool.and_eq_true, Bool.or_eq_true, Bool.not_eq_true', decide_eq_true_eq, decide_eq_false_iff_not]
        refine ⟨⟨⟨⟨⟨hf, by omega⟩, by unfold big; omega⟩, by unfold big; omega⟩, ?_⟩, ?_⟩
        · by_cases h5 : k = 5
          · rw [if_pos h5] at hs
            exact .inr (hL l (by omega) (by omega) hs)
          · exact .inl h5
        · by_cases h68 : k = 6 ∨ k = 8
          · rw [if_neg (by omega), if_pos h68] at hs
            exact .inr (hD d (by omega) (by omega) hs)
          · left
            unfold shapeF at h1
            rw [if_neg (by omega), if_neg (by omega)] at h1
            unfold shapeL at h1
            rcases Decidable.em (k = 0 ∨ k = 3 ∨ k = 4 ∨ k = 5) with h9 | h9
            · omega
            · rw [if_neg h9] at h1
              by_cases a1 : k = 1
              · omega
              · by_cases a2 : k = 2
                · omega
                · by_cases a7 : k = 7
                  · omega
                  · rw [if_neg a1, if_neg a2, if_neg a7] at h1; omega
      · rw [if_pos h2] at hs; exact absurd hs h2
    · rw [if_pos h1] at hs; exact absurd hs h1

end Ink.D

namespace Ink.D
open Go Go.Proofs
set_option maxRecDepth 100000

theorem joinT_len (l : List (List UInt8)) : (joinT l).length ≤ (l.map fun x => x.length + 1).sum := by
  cases l with
  | nil => simp [joinT]
  | cons x r =>
    have : ∀ r : List (List UInt8), ((r.map (32 :: ·)).flatten).length = (r.map fun x => x.length + 1).sum := by
      intro r
      induction r with
      | nil => rfl
      | cons y r ih => simp only [List.map_cons, List.flatten_cons, List.length_append, ih, List.sum_cons, List.length_cons]
    simp only [joinT, List.length_append, this, List.map_cons, List.sum_cons]
    omega

theorem txt_len : ∀ (N : Nat) (o : Ob), sizeOf o < N → okW o = true → wfO o → (txt o).length + 3 ≤ 60 * bulkO o
  | 0, _, h, _, _ => by omega
  | N + 1, .mk k n f s l d, h, hok, hw => by
    simp at h
    simp only [okW, Bool.and_eq_true, Bool.or_eq_true, Bool.not_eq_true', decide_eq_true_eq, decide_eq_false_iff_not] at hok
    obtain ⟨⟨⟨⟨⟨hf, hs⟩, hnl⟩, hnd⟩, hol⟩, hod⟩ := hok
    unfold wfO at hw
    obtain ⟨_, hn, _, _, _, _, hwl, hwd⟩ := hw
    have hL : ∀ (l : List Ob), sizeOf l < N + 1 → okWs l = true → wfOs l → ((txtL l).map fun x => x.length + 1).sum ≤ 60 * bulkL l := by
      intro l
      induction l with
      | nil => intro _ _ _; simp [txtL]
      | cons o r ih =>
        intro hz ho hw
        simp at hz
        simp only [okWs, Bool.and_eq_true] at ho
        simp only [wfOs] at hw
        have h1 := txt_len N o (by omega) ho.1 hw.1
        have h2 := ih (by omega) ho.2 hw.2
        simp only [txtL, List.map_cons, List.sum_cons, bulkL]
        omega
    have hD : ∀ (l : List (List UInt8 × Ob)), sizeOf l < N + 1 → okWd l = true → wfDs l → ((txtD l).map fun x => x.length + 1).sum ≤ 60 * bulkD l := by
      intro l
      induction l with
      | nil => intro _ _ _; simp [txtD]
      | cons e r ih =>
        intro hz ho hw
        obtain ⟨a, o⟩ := e
        simp at hz
        simp only [okWd, okWe, Bool.and_eq_true] at ho
        simp only [wfDs, wfE] at hw
        have h1 := txt_len N o (by omega) ho.1.2 hw.1.2
        have h2 := ih (by omega) ho.2 hw.2
        have h3 := nameC_len a
        simp only [txtD, txtE, List.map_cons, List.sum_cons, bulkD, bulkE, List.length_append, List.length_cons, List.length_nil]
        omega
    have hi : (Lib.itoa n).length ≤ 21 := by
      unfold inI64 at hn
      exact Lib.itoa_length_le n (by omega) (by omega)
    have hj1 := joinT_len (txtL l)
    have hj2 := joinT_len (txtD d)
    have hq := quoteC_len s
    have hnm := nameC_len s
    simp only [bulkO]
    by_cases h0 : k = 0
    · subst h0
      have e : txt (.mk 0 n f s l d) = [110, 117, 108, 108] := by rw [txt]; rfl
      rw [e]; simp only [List.length_cons, List.length_nil]; omega
    by_cases h1 : k = 1
    · subst h1
      have e : txt (.mk 1 n f s l d) = (if decide (n = 1) then [116, 114, 117, 101] else [102, 97, 108, 115, 101]) := by rw [txt]; rfl
      rw [e]; split <;> simp only [List.length_cons, List.length_nil] <;> omega
    by_cases h2 : k = 2
    · subst h2
      have e : txt (.mk 2 n f s l d) = numT n f := by rw [txt]; rfl
      have hp := printL_len f (hf.resolve_left (by simp))
      rw [e]; unfold numT
      split
      · rw [List.length_append]; simp only [List.length_cons, List.length_nil]; omega
      · omega
    by_cases h3 : k = 3
    · subst h3
      have e : txt (.mk 3 n f s l d) = 47 :: (s.map nameC).flatten := by rw [txt]; rfl
      rw [e, List.length_cons]; omega
    by_cases h4 : k = 4
    · subst h4
      have e : txt (.mk 4 n f s l d) = 40 :: (s.map quoteC).flatten ++ [41] := by rw [txt]; rfl
      rw [e, List.length_append, List.length_cons]; simp only [List.length_cons, List.length_nil]; omega
    by_cases h7 : k = 7
    · subst h7
      have e : txt (.mk 7 n f s l d) = Lib.itoa n ++ [32] ++ printL f ++ [32, 82] := by rw [txt]; rfl
      have hp := printL_len f (hf.resolve_left (by simp))
      rw [e]; simp only [List.length_append, List.length_cons, List.length_nil]; omega
    by_cases h5 : k = 5
    · subst h5
      have e : txt (.mk 5 n f s l d) = [91] ++ joinT (txtL l) ++ [93] := by rw [txt]; rfl
      have h9 := hL l (by omega) (hol.resolve_left (by simp)) hwl
      rw [e]; simp only [List.length_append, List.length_cons, List.length_nil]; omega
    · have e : txt (.mk k n f s l d) = [60, 60] ++ joinT (txtD d) ++ [62, 62] := by
        rw [txt, if_neg h0, if_neg h1, if_neg h2, if_neg h3, if_neg h4, if_neg h7, if_neg h5]
      have h9 := hD d (by omega) (hod.resolve_left (by omega)) hwd
      rw [e]; simp only [List.length_append, List.length_cons, List.length_nil]; omega
end Ink.D
