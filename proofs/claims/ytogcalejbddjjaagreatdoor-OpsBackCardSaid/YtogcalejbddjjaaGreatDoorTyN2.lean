import Derived.Test.YtogcalejbddjjaaGreatDoorTyN1
import Derived.Test.YtogcalejbddjjaaGreatDoorPWrF
set_option linter.all false
namespace Ink.D
open Go Go.Proofs
set_option maxRecDepth 100000
variable {E : Env} (hE : E.P = Tryz.prog)

/-! operators: ops.Write -/
def namedB (s : List UInt8) : Bool := !(decide (s = []) || decide (s = [66, 73]) || constS s || decide (s.getD 0 0 ∈ numStart)) && s.all isReg

theorem all_at {p : UInt8 → Bool} {s : List UInt8} {x : Nat} (h : x < s.length) : (s.drop x).all p = (p s[x] && (s.drop (x + 1)).all p) := by
  rw [List.drop_eq_getElem_cons h, List.all_cons]

mutual
def refsO : Ob → Bool
  | .mk k _ _ _ l d => decide (k = 7) || (decide (k = 5) && refsL l) || ((decide (k = 6) || decide (k = 8)) && refsD d)
def refsL : List Ob → Bool
  | [] => false
  | o :: r => refsO o || refsL r
def refsD : List (List UInt8 × Ob) → Bool
  | [] => false
  | e :: r => refsE e || refsD r
def refsE : List UInt8 × Ob → Bool
  | (_, o) => refsO o
end
theorem refsE_eq (e : List UInt8 × Ob) : refsE e = refsO e.2 := by obtain ⟨a, o⟩ := e; rfl
theorem refsL_any (l : List Ob) : refsL l = l.any refsO := by
  induction l with
  | nil => rfl
  | cons o r ih => rw [refsL, ih, List.any_cons]
theorem refsD_any (l : List (List UInt8 × Ob)) : refsD l = l.any (fun e => refsO e.2) := by
  induction l with
  | nil => rfl
  | cons o r ih => rw [refsD, ih, List.any_cons, refsE_eq]

def ixO (p : Ob → Bool) : List Ob → Int → Int
  | [], _ => -1
  | e :: r, i => if p e = true then i else ixO p r (i + 1)
theorem ixO_any (p : Ob → Bool) : ∀ (d : List Ob) (i : Int), 0 ≤ i → decide (ixO p d i ≥ 0) = d.any p
  | [], i, _ => rfl
  | e :: r, i, h => by
    unfold ixO
    rw [List.any_cons]
    by_cases hp : p e = true
    · rw [if_pos hp, hp]; simp; omega
    · rw [if_neg hp, ixO_any p r (i + 1) (by omega)]; simp [hp]

def argsT (l : List Ob) : List UInt8 := (l.map fun o => resT o ++ [32]).flatten
def opT (p : OpL) : List UInt8 := argsT p.2 ++ (p.1 ++ [10])
def argsE : List Ob → Int
  | [] => 0
  | o :: r => if refsO o = true then 1 else if errF o ≠ 0 then errF o else argsE r
def putE (p : OpL) : Int := if namedB p.1 = false then 1 else if 64 < p.2.length then 6 else argsE p.2
def opsE : List OpL → Int
  | [] => 0
  | p :: r => if putE p ≠ 0 then putE p else opsE r
def writeE (l : List OpL) : Int := if 65536 < l.length then 6 else opsE l
def writeT (l : List OpL) : List UInt8 := (l.map opT).flatten

theorem argsT_append (a b : List Ob) : argsT (a ++ b) = argsT a ++ argsT b := by simp [argsT]
theorem argsT_take {l : List Ob} {x : Nat} (h : x < l.length) : argsT (l.take (x + 1)) = argsT (l.take x) ++ (resT l[x] ++ [32]) := by
  rw [List.take_succ_eq_append_getElem h, argsT_append]; simp [argsT]
theorem argsT_le (l : List Ob) (x : Nat) : (argsT (l.take x)).length ≤ (argsT l).length := by
  have := congrArg List.length (argsT_append (l.take x) (l.drop x))
  rw [List.take_append_drop, List.length_append] at this
  omega
theorem argsE_at {l : List Ob} {x : Nat} (h : x < l.length) : argsE (l.drop x) = if refsO l[x] = true then 1 else if errF l[x] ≠ 0 then errF l[x] else argsE (l.drop (x + 1)) := by
  rw [List.drop_eq_getElem_cons h, argsE]
theorem writeT_append (a b : List OpL) : writeT (a ++ b) = writeT a ++ writeT b := by simp [writeT]
theorem writeT_take {l : List OpL} {x : Nat} (h : x < l.length) : writeT (l.take (x + 1)) = writeT (l.take x) ++ opT l[x] := by
  rw [List.take_succ_eq_append_getElem h, writeT_append]; simp [writeT]
theorem writeT_le (l : List OpL) (x : Nat) : (writeT (l.take x)).length ≤ (writeT l).length := by
  have := congrArg List.length (writeT_append (l.take x) (l.drop x))
  rw [List.take_append_drop, List.length_append] at this
  omega
theorem opsE_at {l : List OpL} {x : Nat} (h : x < l.length) : opsE (l.drop x) = if putE l[x] ≠ 0 then putE l[x] else opsE (l.drop (x + 1)) := by
  rw [List.drop_eq_getElem_cons h, opsE]
theorem opLs_at {d : List OpL} {k : Nat} (h : k < d.length) : (opLs d).getD (k : Int).toNat [] = opE d[k] := by
  simp [opLs, h]

include hE
theorem named122 (s : List UInt8) (hs : s.length < 1000000) : PCalls E 122 [.str s] (· = .bool (namedB s)) := by
  have hc := constant138 hE s
  have hI := index47 hE numStart (s.getD 0 0) (by decide)
  have hW := fun c => white hE c
  have hD := fun c => delim hE c
  have hm := ix_mem numStart (s.getD 0 0)
  unfold numStart at hI
  have hnb : namedB s = (!(decide (s = []) || decide (s = [66, 73]) || constS s || decide (0 ≤ ix [43, 45, 46, 48, 49, 50, 51, 52, 53, 54, 55, 56, 57] (s.getD 0 0))) && s.all isReg) := by
    unfold namedB
    have : decide (s.getD 0 0 ∈ numStart) = decide (0 ≤ ix [43, 45, 46, 48, 49, 50, 51, 52, 53, 54, 55, 56, 57] (s.getD 0 0)) := decide_eq_decide.mpr hm.symm
    rw [this]
  rw [hnb]
  clear hnb hm
  generalize ix [43, 45, 46, 48, 49, 50, 51, 52, 53, 54, 55, 56, 57] (s.getD 0 0) = q at *
  refine p122 hE (fun l => ?_)
  generalize hR : s.all isReg = R
  cases hcs : constS s with
  | true =>
    rw [hcs] at hc
    conv => whnf
    repeat' (first
      | (refine And.intro W1 ?_; conv => whnf)
      | (refine brD (fun _ => ?_) (fun _ => ?_) <;> first | (exfalso; omega) | (conv => whnf))
      | (refine brB (fun _ => ?_) (fun _ => ?_) <;> conv => whnf)
      | ((first | refine CallG.e hc ?_ | refine CallD.e hc ?_ | refine CallQ.e hc ?_ | refine CallP.e hc ?_); conv => whnf)
      | ((first | refine CallG.e hI ?_ | refine CallD.e hI ?_ | refine CallQ.e hI ?_ | refine CallP.e hI ?_); conv => whnf))
    all_goals first | exact RetG.q ⟨rfl, by simp_all, rfl⟩ | skip
  | false =>
    rw [hcs] at hc
    by_cases h0 : s = []
    · subst h0
      conv => whnf
      repeat' (first
        | (refine And.intro W1 ?_; conv => whnf)
        | (refine brD (fun _ => ?_) (fun _ => ?_) <;> first | (exfalso; omega) | (conv => whnf))
        | (refine brB (fun _ => ?_) (fun _ => ?_) <;> conv => whnf)
        | ((first | refine CallG.e hc ?_ | refine CallD.e hc ?_ | refine CallQ.e hc ?_ | refine CallP.e hc ?_); conv => whnf)
        | ((first | refine CallG.e hI ?_ | refine CallD.e hI ?_ | refine CallQ.e hI ?_ | refine CallP.e hI ?_); conv => whnf))
      all_goals first | contradiction | exact RetG.q ⟨rfl, by simp, rfl⟩
    · have hpos : 0 < s.length := List.length_pos_iff.mpr h0
      conv => whnf
      repeat' (first
        | (refine And.intro W1 ?_; conv => whnf)
        | (refine brD (fun _ => ?_) (fun _ => ?_) <;> first | (exfalso; omega) | (conv => whnf))
        | (refine brB (fun _ => ?_) (fun _ => ?_) <;> conv => whnf)
        | ((first | refine CallG.e hc ?_ | refine CallD.e hc ?_ | refine CallQ.e hc ?_ | refine CallP.e hc ?_); conv => whnf)
        | ((first | refine CallG.e hI ?_ | refine CallD.e hI ?_ | refine CallQ.e hI ?_ | refine CallP.e hI ?_); conv => whnf))
      all_goals first | contradiction | exact RetG.q ⟨rfl, by simp_all, rfl⟩ | skip
      refine LoopG.s (fun x : Nat => x ≤ s.length ∧ (s.drop x).all isReg = R) 36 (fun x => [(0, .str s), (21, .int .i64 s.length), (22, .int .i64 x)]) (fun _ => frm l) (fun x => s.length - x) 0 ⟨by simp, by simpa using hR⟩ rfl ⟨rfl, rfl, rfl⟩ rfl ?_
      rintro x ⟨h1, h2⟩
      by_cases hx : x < s.length
      · have hg : s.getD (x : Int).toNat 0 = s[x] := by simp [hx]
        have ha := all_at (p := isReg) hx
        rw [show isReg s[x] = (!isWhite s[x] && !isDelim s[x]) from rfl] at ha
        have hW := hW s[x]
        have hD := hD s[x]
        rw [ha] at h2
        generalize hy3 : (s.drop (x + 1)).all isReg = y3 at *
        generalize isWhite s[x] = y1 at *
        generalize isDelim s[x] = y2 at *
        conv => whnf
        repeat' (first
          | (rw [hg]; conv => whnf)
          | (refine And.intro W1 ?_; conv => whnf)
          | (refine brD (fun _ => ?_) (fun _ => ?_) <;> first | (exfalso; omega) | (conv => whnf))
          | (refine brB (fun _ => ?_) (fun _ => ?_) <;> conv => whnf)
          | ((first | refine CallG.e hW ?_ | refine CallD.e hW ?_ | refine CallQ.e hW ?_ | refine CallP.e hW ?_); conv => whnf)
          | ((first | refine CallG.e hD ?_ | refine CallD.e hD ?_ | refine CallQ.e hD ?_ | refine CallP.e hD ?_); conv => whnf))
        · exact RetG.q ⟨rfl, by simp_all, rfl⟩
        · exact RetG.q ⟨rfl, by simp_all, rfl⟩
        · rename_i g1 g2
          exact ⟨x + 1, ⟨⟨by omega, by rw [hy3]; simpa [g1, g2] using h2⟩, by omega⟩, Wk.slots rfl ⟨rfl, rfl, rfl⟩⟩
      · have : x = s.length := by omega
        subst this
        rw [List.drop_length] at h2
        conv => whnf
        repeat' (first
          | (refine And.intro W1 ?_; conv => whnf)
          | (refine brD (fun _ => ?_) (fun _ => ?_) <;> first | (exfalso; omega) | (conv => whnf))
          | (refine brB (fun _ => ?_) (fun _ => ?_) <;> conv => whnf))
        exact RetG.q ⟨rfl, by simp_all, rfl⟩

theorem indexO230 (f : FuncId) (p : Ob → Bool) (d : List Ob) (hd : d.length < big) (hf : ∀ e ∈ d, PCalls E f [.agg (obC e)] (· = .bool (p e))) :
    PCalls E 230 [.imm 6 (obL d), .fn (.func f) [] []] (· = .int .i64 (ixO p d 0)) := by
  have hl := obL_len d
  have hD : ∀ n0, hbLL n0 (obL d) = true := fun n0 => obL_hb d
  unfold big at hd
  refine p230 hE (fun l => ?_) (by simp [hbL, hb, hD])
  conv => whnf
  repeat' (first
    | (refine And.intro W1 ?_; conv => whnf)
    | (refine brD (fun _ => ?_) (fun _ => ?_) <;> first | (exfalso; omega) | (conv => whnf))
    | (refine brB (fun _ => ?_) (fun _ => ?_) <;> conv => whnf))
  refine LoopG.s (fun x : Nat => x ≤ d.length ∧ ixO p (d.drop x) x = ixO p d 0) 19 (fun x => [(0, .imm 6 (obL d)), (1, .fn (.func f) [] []), (4, .int .i64 0), (6, .imm 6 (obL d)), (7, .int .i64 (obL d).length), (8, .int .i64 x)]) (fun _ => frm l) (fun x => d.length - x) 0 ⟨by simp, by simp⟩ rfl ⟨rfl, rfl, rfl, rfl, rfl, rfl⟩ rfl ?_
  rintro x ⟨h1, h2⟩
  by_cases hx : x < d.length
  · have hg := obL_at hx
    have hk : ixO p (d.drop x) x = if p d[x] = true then (x : Int) else ixO p (d.drop (x + 1)) (x + 1 : Nat) := by
      rw [List.drop_eq_getElem_cons hx, ixO]; rfl
    have hp := hf d[x] (List.getElem_mem hx)
    have hcl : ∃ c0 c1 c2 c3 c4 c5, obC d[x] = [c0, c1, c2, c3, c4, c5] := by cases d[x]; exact ⟨_, _, _, _, _, _, rfl⟩
    obtain ⟨c0, c1, c2, c3, c4, c5, hc⟩ := hcl
    rw [hc] at hg hp
    generalize p d[x] = y at *
    conv => whnf
    repeat' (first
      | (rw [hg]; conv => whnf)
      | (refine And.intro W1 ?_; conv => whnf)
      | (refine brD (fun _ => ?_) (fun _ => ?_) <;> first | (exfalso; omega) | (conv => whnf))
      | (refine brB (fun _ => ?_) (fun _ => ?_) <;> conv => whnf)
      | ((first | refine CallG.e hp ?_ | refine CallD.e hp ?_ | refine CallQ.e hp ?_ | refine CallP.e hp ?_); conv => whnf))
    · rename_i hy
      rw [if_pos hy] at hk
      exact RetG.q ⟨rfl, congrArg (AV.int .i64) (by rw [← h2, hk]), rfl⟩
    · rename_i hy
      rw [if_neg (by rw [hy]; decide)] at hk
      exact ⟨x + 1, ⟨⟨by omega, by rw [← hk, h2]⟩, by omega⟩, Wk.slots rfl ⟨rfl, rfl, rfl, rfl, rfl, rfl⟩⟩
  · conv => whnf
    repeat' (first
      | (refine And.intro W1 ?_; conv => whnf)
      | (refine brD (fun _ => ?_) (fun _ => ?_) <;> first | (exfalso; omega) | (conv => whnf))
      | (refine brB (fun _ => ?_) (fun _ => ?_) <;> conv => whnf))
    have : x = d.length := by omega
    subst this
    rw [List.drop_length] at h2
    exact RetG.q ⟨rfl, congrArg (AV.int .i64) h2, rfl⟩

theorem containsO180 (f : FuncId) (p : Ob → Bool) (d : List Ob) (hd : d.length < big) (hf : ∀ e ∈ d, PCalls E f [.agg (obC e)] (· = .bool (p e))) :
    PCalls E 180 [.imm 6 (obL d), .fn (.func f) [] []] (· = .bool (d.any p)) := by
  have h := indexO230 hE f p d hd hf
  have ha := ixO_any p d 0 (by omega)
  have hD : ∀ n0, hbLL n0 (obL d) = true := fun n0 => obL_hb d
  refine p180 hE (fun l => ?_) (by simp [hbL, hb, hD])
  generalize ixO p d 0 = i at *
  conv => whnf
  repeat' (first
    | (refine And.intro W1 ?_; conv => whnf)
    | (refine brD (fun _ => ?_) (fun _ => ?_) <;> first | (exfalso; omega) | (conv => whnf))
    | (refine brB (fun _ => ?_) (fun _ => ?_) <;> conv => whnf)
    | ((first | refine CallG.e h ?_ | refine CallD.e h ?_ | refine CallQ.e h ?_ | refine CallP.e h ?_); conv => whnf))
  exact RetG.q ⟨rfl, by rw [← ha], rfl⟩

theorem indexD225 (f : FuncId) (p : List UInt8 × Ob → Bool) (d : List (List UInt8 × Ob)) (hd : d.length < big) (hf : ∀ e ∈ d, PCalls E f [.agg (obE e)] (· = .bool (p e))) :
    PCalls E 225 [.imm 7 (obD d), .fn (.func f) [] []] (· = .int .i64 (ixP p d 0)) := by
  have hl := obD_length d
  have hD : ∀ n0, hbLL n0 (obD d) = true := fun n0 => obD_hb d
  unfold big at hd
  refine p225 hE (fun l => ?_) (by simp [hbL, hb, hD])
  conv => whnf
  repeat' (first
    | (refine And.intro W1 ?_; conv => whnf)
    | (refine brD (fun _ => ?_) (fun _ => ?_) <;> first | (exfalso; omega) | (conv => whnf))
    | (refine brB (fun _ => ?_) (fun _ => ?_) <;> conv => whnf))
  refine LoopG.s (fun x : Nat => x ≤ d.length ∧ ixP p (d.drop x) x = ixP p d 0) 19 (fun x => [(0, .imm 7 (obD d)), (1, .fn (.func f) [] []), (4, .int .i64 0), (6, .imm 7 (obD d)), (7, .int .i64 (obD d).length), (8, .int .i64 x)]) (fun _ => frm l) (fun x => d.length - x) 0 ⟨by simp, by simp⟩ rfl ⟨rfl, rfl, rfl, rfl, rfl, rfl⟩ rfl ?_
  rintro x ⟨h1, h2⟩
  by_cases hx : x < d.length
  · have hg := obD_get hx
    have hk : ixP p (d.drop x) x = if p d[x] = true then (x : Int) else ixP p (d.drop (x + 1)) (x + 1 : Nat) := by
      rw [List.drop_eq_getElem_cons hx, ixP]; rfl
    have hp := hf d[x] (List.getElem_mem hx)
    have hcl : ∃ c0 c1 c2 c3 c4 c5 c6, obE d[x] = [c0, c1, c2, c3, c4, c5, c6] := by
      generalize d[x] = e; obtain ⟨a, o⟩ := e; cases o; exact ⟨_, _, _, _, _, _, _, rfl⟩
    obtain ⟨c0, c1, c2, c3, c4, c5, c6, hc⟩ := hcl
    rw [hc] at hg hp
    generalize p d[x] = y at *
    conv => whnf
    repeat' (first
      | (rw [hg]; conv => whnf)
      | (refine And.intro W1 ?_; conv => whnf)
      | (refine brD (fun _ => ?_) (fun _ => ?_) <;> first | (exfalso; omega) | (conv => whnf))
      | (refine brB (fun _ => ?_) (fun _ => ?_) <;> conv => whnf)
      | ((first | refine CallG.e hp ?_ | refine CallD.e hp ?_ | refine CallQ.e hp ?_ | refine CallP.e hp ?_); conv => whnf))
    · rename_i hy
      rw [if_pos hy] at hk
      exact RetG.q ⟨rfl, congrArg (AV.int .i64) (by rw [← h2, hk]), rfl⟩
    · rename_i hy
      rw [if_neg (by rw [hy]; decide)] at hk
      exact ⟨x + 1, ⟨⟨by omega, by rw [← hk, h2]⟩, by omega⟩, Wk.slots rfl ⟨rfl, rfl, rfl, rfl, rfl, rfl⟩⟩
  · conv => whnf
    repeat' (first
      | (refine And.intro W1 ?_; conv => whnf)
      | (refine brD (fun _ => ?_) (fun _ => ?_) <;> first | (exfalso; omega) | (conv => whnf))
      | (refine brB (fun _ => ?_) (fun _ => ?_) <;> conv => whnf))
    have : x = d.length := by omega
    subst this
    rw [List.drop_length] at h2
    exact RetG.q ⟨rfl, congrArg (AV.int .i64) h2, rfl⟩

theorem containsD181 (f : FuncId) (p : List UInt8 × Ob → Bool) (d : List (List UInt8 × Ob)) (hd : d.length < big) (hf : ∀ e ∈ d, PCalls E f [.agg (obE e)] (· = .bool (p e))) :
    PCalls E 181 [.imm 7 (obD d), .fn (.func f) [] []] (· = .bool (d.any p)) := by
  have h := indexD225 hE f p d hd hf
  have ha := ixP_any p d 0 (by omega)
  have hD : ∀ n0, hbLL n0 (obD d) = true := fun n0 => obD_hb d
  refine p181 hE (fun l => ?_) (by simp [hbL, hb, hD])
  generalize ixP p d 0 = i at *
  conv => whnf
  repeat' (first
    | (refine And.intro W1 ?_; conv => whnf)
    | (refine brD (fun _ => ?_) (fun _ => ?_) <;> first | (exfalso; omega) | (conv => whnf))
    | (refine brB (fun _ => ?_) (fun _ => ?_) <;> conv => whnf)
    | ((first | refine CallG.e h ?_ | refine CallD.e h ?_ | refine CallQ.e h ?_ | refine CallP.e h ?_); conv => whnf))
  exact RetG.q ⟨rfl, by rw [← ha], rfl⟩

theorem refers123 : ∀ (N : Nat) (o : Ob), sizeOf o < N → countO o < big → PCalls E 123 [.agg (obC o)] (· = .bool (refsO o))
  | 0, o, h, _ => by omega
  | N + 1, .mk k n f s l_ d, hN, hc => by
    have hlen := countL_len l_
    have hdlen := countD_len d
    unfold countO at hc
    simp at hN
    have hl := containsO180 hE 123 refsO l_ (by omega) (fun o ho => refers123 N o (by have := List.sizeOf_lt_of_mem ho; omega) (by have := countO_mem ho; omega))
    have hf : ∀ e ∈ d, PCalls E 182 [.agg (obE e)] (· = .bool (refsO e.2)) := fun e he => by
      have h := refers123 N e.2 (by have := List.sizeOf_lt_of_mem he; have h3 : sizeOf e.2 < sizeOf e := by { obtain ⟨a, o⟩ := e; simp; omega }; omega) (by have := countD_mem he; omega)
      obtain ⟨a, o⟩ := e
      obtain ⟨k, n, f, s, l_, d⟩ := o
      have hD : ∀ n0, hbLL n0 (obD d) = true := fun n0 => obD_hb d
      have hL : ∀ n0, hbLL n0 (obL l_) = true := fun n0 => obL_hb l_
      refine p182 hE (fun l => ?_) (by simp [hbL, hb, obE_hb])
      rw [obE_eq]
      unfold obC at *
      simp only at h ⊢
      generalize refsO (.mk k n f s l_ d) = y at *
      conv => whnf
      repeat' (first
        | (refine And.intro W1 ?_; conv => whnf)
        | (refine brD (fun _ => ?_) (fun _ => ?_) <;> first | (exfalso; omega) | (conv => whnf))
        | (refine brB (fun _ => ?_) (fun _ => ?_) <;> conv => whnf)
        | ((first | refine CallG.e h ?_ | refine CallD.e h ?_ | refine CallQ.e h ?_ | refine CallP.e h ?_); conv => whnf))
      exact RetG.drop rfl rfl rfl ⟨rfl, rfl, rfl⟩
    have hd := containsD181 hE 182 (fun e => refsO e.2) d (by omega) hf
    have hr : refsO (.mk k n f s l_ d) = (decide (k = 7) || (decide (k = 5) && l_.any refsO) || ((decide (k = 6) || decide (k = 8)) && d.any (fun e => refsO e.2))) := by
      rw [refsO, refsL_any, refsD_any]
    rw [hr]
    clear hr hf
    generalize l_.any refsO = y1 at *
    generalize d.any (fun e => refsO e.2) = y2 at *
    have hD : ∀ n0, hbLL n0 (obD d) = true := fun n0 => obD_hb d
    have hL : ∀ n0, hbLL n0 (obL l_) = true := fun n0 => obL_hb l_
    refine p123 hE (fun l => ?_) (by simp [hbL, hb, obC_hb])
    unfold obC at *
    conv => whnf
    repeat' (first
      | (refine And.intro W1 ?_; conv => whnf)
      | (refine brD (fun _ => ?_) (fun _ => ?_) <;> first | (exfalso; omega) | (conv => whnf))
      | (refine brB (fun _ => ?_) (fun _ => ?_) <;> conv => whnf)
      | ((first | refine CallG.e hl ?_ | refine CallD.e hl ?_ | refine CallQ.e hl ?_ | refine CallP.e hl ?_); conv => whnf)
      | ((first | refine CallG.e hd ?_ | refine CallD.e hd ?_ | refine CallQ.e hd ?_ | refine CallP.e hd ?_); conv => whnf))
    all_goals exact RetG.drop rfl rfl rfl ⟨rfl, by simp_all, rfl⟩

theorem objectR (hT : TabE E) (o : Ob) (hc : countO o < big) (hok : errF o = 0 → okW o = true ∧ (txt o).length < 1000000000) : PCalls E 19 [.agg (obC o)] (· = .tup [.str (resT o), .int .i64 (errF o)]) := by
  have := objectF hE hT o hc hok
  rwa [objAVF_eq] at this

set_option maxHeartbeats 1000000 in
theorem put69 (hT : TabE E) (p : OpL) (b : List UInt8) (hl : p.2.length < big) (hn : p.1.length < 1000000) (hok : ∀ o ∈ p.2, countO o < big ∧ (errF o = 0 → okW o = true ∧ (txt o).length < 1000000000)) (hlen : b.length + (opT p).length < 1000000000) :
    BCalls E 69 [.ptr 1 0 0, .agg (opE p)] [.bld 90 5 b] fun r ks => r = .int .i64 (putE p) ∧ ∃ t, ks = [.bld 90 5 (b ++ t)] ∧ (putE p = 0 → t = opT p) := by
  obtain ⟨nm, args⟩ := p
  simp only at *
  have hN := named122 hE nm hn
  have hlL := obL_len args
  have hL : ∀ n0, hbLL n0 (obL args) = true := fun n0 => obL_hb args
  have hlen2 : b.length + (argsT args).length + (nm ++ [10]).length < 1000000000 := by
    unfold opT at hlen
    simp only [List.length_append] at hlen ⊢
    omega
  unfold big at hl
  refine b69 hE fun l => ?_
  unfold putE opE
  simp only
  generalize namedB nm = y at *
  cases y with
  | false =>
    conv => whnf
    repeat' (first
      | (refine And.intro W1 ?_; conv => whnf)
      | (refine brD (fun _ => ?_) (fun _ => ?_) <;> first | (exfalso; omega) | (conv => whnf))
      | (refine brB (fun _ => ?_) (fun _ => ?_) <;> conv => whnf)
      | ((first | refine CallG.e hN ?_ | refine CallD.e hN ?_ | refine CallQ.e hN ?_ | refine CallP.e hN ?_); conv => whnf))
    exact RetG.b (ks := [.bld 90 5 b]) (ks' := [.bld 90 5 b]) rfl rfl rfl rfl rfl rfl ⟨rfl, [], by simp, fun h => by simp at h⟩
  | true =>
    by_cases h64 : 64 < args.length
    · rw [if_neg (by simp), if_pos h64]
      conv => whnf
      repeat' (first
        | (refine And.intro W1 ?_; conv => whnf)
        | (refine brD (fun _ => ?_) (fun _ => ?_) <;> first | (exfalso; omega) | (conv => whnf))
        | (refine brB (fun _ => ?_) (fun _ => ?_) <;> conv => whnf)
        | ((first | refine CallG.e hN ?_ | refine CallD.e hN ?_ | refine CallQ.e hN ?_ | refine CallP.e hN ?_); conv => whnf))
      exact RetG.b (ks := [.bld 90 5 b]) (ks' := [.bld 90 5 b]) rfl rfl rfl rfl rfl rfl ⟨rfl, [], by simp, fun h => by simp at h⟩
    · rw [if_neg (by simp), if_neg h64]
      generalize hR : argsE args = R
      conv => whnf
      repeat' (first
        | (refine And.intro W1 ?_; conv => whnf)
        | (refine brD (fun _ => ?_) (fun _ => ?_) <;> first | (exfalso; omega) | (conv => whnf))
        | (refine brB (fun _ => ?_) (fun _ => ?_) <;> conv => whnf)
        | ((first | refine CallG.e hN ?_ | refine CallD.e hN ?_ | refine CallQ.e hN ?_ | refine CallP.e hN ?_); conv => whnf))
      refine LoopG.s (fun x : Nat => x ≤ args.length ∧ argsE (args.drop x) = R) 46 (fun x => [(0, .ptr 1 0 0), (3, .ptr 2 0 0), (20, .imm 6 (obL args)), (21, .int .i64 (obL args).length), (22, .int .i64 x)]) (fun x => frmB l [.bld 90 5 (b ++ argsT (args.take x))] ++ [⟨0, true, .cells 47 [.str nm, .imm 6 (obL args)]⟩]) (fun x => args.length - x) 0 ⟨by simp, by simpa using hR⟩ rfl ⟨rfl, rfl, rfl, rfl, rfl⟩ (by simp [argsT, frmB, blkOf, newBlk]) ?_
      rintro x ⟨h1, h2⟩
      by_cases hx : x < args.length
      · have hg := obL_at hx
        have hk := argsE_at hx
        have ht := argsT_take hx
        have hle := argsT_le args x
        have hle2 := argsT_le args (x + 1)
        rw [ht] at hle2
        obtain ⟨hc1, hc2⟩ := hok args[x] (List.getElem_mem hx)
        have hRf := refers123 hE _ args[x] (Nat.lt_succ_self _) hc1
        have hO := objectR hE hT args[x] hc1 hc2
        have hW := writeString hE (b ++ argsT (args.take x)) (resT args[x] ++ [32]) (by simp only [List.length_append] at *; omega)
        have hcl : ∃ c0 c1 c2 c3 c4 c5, obC args[x] = [c0, c1, c2, c3, c4, c5] := by cases args[x]; exact ⟨_, _, _, _, _, _, rfl⟩
        have hbC := obC_hb (n0 := 3) args[x]
        obtain ⟨c0, c1, c2, c3, c4, c5, hc⟩ := hcl
        rw [hc] at hg hRf hO hbC
        generalize refsO args[x] = y1 at *
        generalize errF args[x] = y2 at *
        generalize resT args[x] = T at *
        rw [h2] at hk
        have hTl : T.length + 1 ≤ 1000000000 := by simp only [List.length_append, List.length_cons, List.length_nil] at hle2; omega
        have e : b ++ argsT (args.take x) ++ (T ++ [32]) = b ++ argsT (args.take (x + 1)) := by rw [ht, List.append_assoc]
        conv => whnf
        repeat' (first
          | (rw [hg]; conv => whnf)
          | (refine And.intro W1 ?_; conv => whnf)
          | (refine brD (fun _ => ?_) (fun _ => ?_) <;> first | (exfalso; omega) | (conv => whnf))
          | (refine brB (fun _ => ?_) (fun _ => ?_) <;> conv => whnf)
          | ((first | refine CallG.e hRf ?_ | refine CallD.e hRf ?_ | refine CallQ.e hRf ?_ | refine CallP.e hRf ?_); conv => whnf)
          | ((first | refine CallG.e hO ?_ | refine CallD.e hO ?_ | refine CallQ.e hO ?_ | refine CallP.e hO ?_); conv => whnf)
          | (refine CallG.b [(1, 0)] hW ⟨rfl, trivial⟩ ⟨.ptr 0 1 0 0 rfl, .same _ rfl, trivial⟩ (fun r ks' hq _ _ => ?_); obtain ⟨rfl, rfl⟩ := hq; conv => whnf))
        · rename_i hy
          rw [if_pos hy] at hk
          subst hk
          exact RetG.b (ks := [.bld 90 5 b]) (ks' := [.bld 90 5 (b ++ argsT (args.take x))]) rfl rfl rfl rfl rfl rfl ⟨rfl, argsT (args.take x), rfl, fun h => absurd h (by decide)⟩
        · rename_i hy hy2
          rw [if_neg (by simp [hy]), if_pos hy2] at hk
          subst hk
          exact RetG.b (ks := [.bld 90 5 b]) (ks' := [.bld 90 5 (b ++ argsT (args.take x))]) rfl rfl rfl rfl rfl rfl ⟨rfl, argsT (args.take x), rfl, fun h => absurd h hy2⟩
        · rename_i hy hy2 _ _
          rw [if_neg (by simp [hy]), if_neg hy2] at hk
          rw [e]
          exact ⟨x + 1, ⟨⟨by omega, hk.symm⟩, by omega⟩, Wk.cut 3 rfl rfl rfl ⟨⟨_, rfl, .same _ rfl⟩, ⟨_, rfl, .same _ rfl⟩, ⟨_, rfl, .same _ (hL 3)⟩, ⟨_, rfl, .same _ rfl⟩, ⟨_, rfl, .same _ rfl⟩, trivial⟩ rfl (by simp [frmB, blkOf, hbH, hbB, hbL, hb, hL])⟩
      · have : x = args.length := by omega
        subst this
        rw [List.drop_length] at h2
        rw [List.take_length]
        have hW := writeString hE (b ++ argsT args) (nm ++ [10]) (by simp only [List.length_append] at *; omega)
        conv => whnf
        repeat' (first
          | (refine And.intro W1 ?_; conv => whnf)
          | (refine brD (fun _ => ?_) (fun _ => ?_) <;> first | (exfalso; omega) | (conv => whnf))
          | (refine brB (fun _ => ?_) (fun _ => ?_) <;> conv => whnf)
          | (refine CallG.b [(1, 0)] hW ⟨rfl, trivial⟩ ⟨.ptr 0 1 0 0 rfl, .same _ rfl, trivial⟩ (fun r ks' hq _ _ => ?_); obtain ⟨rfl, rfl⟩ := hq; conv => whnf))
        exact RetG.b (ks := [.bld 90 5 b]) (ks' := [.bld 90 5 (b ++ argsT args ++ (nm ++ [10]))]) rfl rfl rfl rfl rfl rfl ⟨by rw [← h2]; rfl, argsT args ++ (nm ++ [10]), by simp, fun _ => rfl⟩

set_option maxHeartbeats 1000000 in
theorem write31 (hT : TabE E) (ops : List OpL) (hl : ops.length < big) (hok : ∀ p ∈ ops, p.2.length < big ∧ p.1.length < 1000000 ∧ ∀ o ∈ p.2, countO o < big ∧ (errF o = 0 → okW o = true ∧ (txt o).length < 1000000000)) (hlen : (writeT ops).length < 1000000000) :
    PCalls E 31 [.imm 2 (opLs ops)] (· = .tup [.str (if writeE ops = 0 then writeT ops else []), .int .i64 (writeE ops)]) := by
  have hlL := opLs_len ops
  have hL : ∀ n0, hbLL n0 (opLs ops) = true := fun n0 => opLs_hb ops
  unfold big at hl
  refine p31 hE (fun l => ?_) (by simp [hbL, hb, hL])
  unfold writeE
  by_cases h6 : 65536 < ops.length
  · rw [if_pos h6, if_neg (by decide)]
    conv => whnf
    repeat' (first
      | (refine And.intro W1 ?_; conv => whnf)
      | (refine brD (fun _ => ?_) (fun _ => ?_) <;> first | (exfalso; omega) | (conv => whnf))
      | (refine brB (fun _ => ?_) (fun _ => ?_) <;> conv => whnf))
    exact RetG.q ⟨rfl, rfl, rfl⟩
  · rw [if_neg h6]
    generalize hR : opsE ops = R
    conv => whnf
    repeat' (first
      | (refine And.intro W1 ?_; conv => whnf)
      | (refine brD (fun _ => ?_) (fun _ => ?_) <;> first | (exfalso; omega) | (conv => whnf))
      | (refine brB (fun _ => ?_) (fun _ => ?_) <;> conv => whnf))
    refine LoopG.s (fun x : Nat => x ≤ ops.length ∧ opsE (ops.drop x) = R) 24 (fun x => [(0, .imm 2 (opLs ops)), (4, .ptr 1 0 0), (11, .imm 2 (opLs ops)), (12, .int .i64 (opLs ops).length), (13, .int .i64 x)]) (fun x => frmB l [.bld 90 5 (writeT (ops.take x))]) (fun x => ops.length - x) 0 ⟨by simp, by simpa using hR⟩ rfl ⟨rfl, rfl, rfl, rfl, rfl⟩ (by simp [writeT, frmB, blkOf, frm, newBlk]) ?_
    rintro x ⟨h1, h2⟩
    by_cases hx : x < ops.length
    · have hg := opLs_at hx
      have hk := opsE_at hx
      have ht := writeT_take hx
      have hle2 := writeT_le ops (x + 1)
      rw [ht] at hle2
      obtain ⟨hc1, hc2, hc3⟩ := hok ops[x] (List.getElem_mem hx)
      have hP := put69 hE hT ops[x] (writeT (ops.take x)) hc1 hc2 hc3 (by simp only [List.length_append] at *; omega)
      have hhb := opE_hb (n0 := 0) ops[x]
      have hcl : ∃ c0 c1, opE ops[x] = [c0, c1] := ⟨_, _, rfl⟩
      obtain ⟨c0, c1, hc⟩ := hcl
      rw [hc] at hg hP hhb
      generalize putE ops[x] = y at *
      rw [h2] at hk
      conv => whnf
      repeat' (first
        | (rw [hg]; conv => whnf)
        | (refine And.intro W1 ?_; conv => whnf)
        | (refine brD (fun _ => ?_) (fun _ => ?_) <;> first | (exfalso; omega) | (conv => whnf))
        | (refine brB (fun _ => ?_) (fun _ => ?_) <;> conv => whnf)
        | (refine CallG.b [(1, 0)] hP ⟨rfl, trivial⟩ ⟨.ptr 0 1 0 0 rfl, .same _ hhb, trivial⟩ (fun r ks' hq _ _ => ?_); obtain ⟨rfl, t, rfl, ht0⟩ := hq; conv => whnf))
      · rename_i hy
        rw [if_pos hy] at hk
        subst hk
        exact RetG.drop rfl rfl rfl ⟨rfl, by rw [if_neg hy], rfl⟩
      · rename_i _ _ hy
        rw [if_neg hy] at hk
        rw [ht0 (Decidable.not_not.mp hy), ← ht]
        exact ⟨x + 1, ⟨⟨by omega, hk.symm⟩, by omega⟩, Wk.cut 2 rfl rfl rfl ⟨⟨_, rfl, .same _ (hL 2)⟩, ⟨_, rfl, .same _ rfl⟩, ⟨_, rfl, .same _ (hL 2)⟩, ⟨_, rfl, .same _ rfl⟩, ⟨_, rfl, .same _ rfl⟩, trivial⟩ rfl (by simp [frmB, blkOf, hbH, hbB, hbL, hb, hL])⟩
    · have : x = ops.length := by omega
      subst this
      rw [List.drop_length] at h2
      rw [List.take_length]
      have hS := string hE (writeT ops) hlen
      conv => whnf
      repeat' (first
        | (refine And.intro W1 ?_; conv => whnf)
        | (refine brD (fun _ => ?_) (fun _ => ?_) <;> first | (exfalso; omega) | (conv => whnf))
        | (refine brB (fun _ => ?_) (fun _ => ?_) <;> conv => whnf)
        | (refine CallG.b [(1, 0)] hS ⟨rfl, trivial⟩ ⟨.ptr 0 1 0 0 rfl, trivial⟩ (fun r ks' hq _ _ => ?_); obtain ⟨rfl, rfl⟩ := hq; conv => whnf))
      have h2 : R = 0 := by rw [← h2]; rfl
      subst h2
      exact RetG.drop rfl rfl rfl ⟨rfl, rfl, rfl⟩
end Ink.D
