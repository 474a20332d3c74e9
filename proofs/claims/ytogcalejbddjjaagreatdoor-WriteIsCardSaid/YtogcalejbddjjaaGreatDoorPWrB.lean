import Derived.Test.YtogcalejbddjjaaGreatDoorPWrA
import Derived.Test.YtogcalejbddjjaaGreatDoorInkE
set_option linter.all false
namespace Ink.D
open Go Go.Proofs
set_option maxRecDepth 100000
variable {E : Env} (hE : E.P = Tryz.prog)

def numT (n f : Int) : List UInt8 := if n = 0 ∧ f.tmod 1000 = 0 then printL f ++ [46, 48] else printL f

theorem printL_len (f : Int) (hf : mayF f = true) : (printL f).length ≤ 20 := by
  have hm : -2147483648 ≤ f ∧ f ≤ 2147483648 := by simpa [mayF] using hf
  have h1 := fixO_len (fixB f)
  have h2 : (Lib.decDigits f.natAbs).length ≤ 10 := dec_len 9 _ (by omega)
  have h3 : (fixB f).length ≤ 14 := by
    unfold fixB
    split
    · rw [List.length_append, Lib.repeatL_length]; simp; omega
    · omega
  unfold printL
  split <;> simp <;> omega

theorem nameT_len (s : List UInt8) : (47 :: (s.map nameC).flatten).length ≤ 3 * s.length + 1 := by
  have := nameC_len s
  simp only [List.length_cons]; omega

include hE
theorem number (hT : TabE E) (k n f : Int) (s : List UInt8) (l_ : List Ob) (d : List (List UInt8 × Ob)) (hf : mayF f = true) :
    PCalls E 94 [.agg (obC (.mk k n f s l_ d))] (· = .str (numT n f)) := by
  have hP := print hE hT f hf
  have hl := printL_len f hf
  refine p94 hE (fun l => ?_) (by simp [hbL, hb, obC_hb])
  unfold obC numT
  generalize printL f = p at *
  conv => whnf
  repeat' (first
    | (refine And.intro W1 ?_; conv => whnf)
    | (refine brD (fun _ => ?_) (fun _ => ?_) <;> first | (exfalso; omega) | (conv => whnf))
    | (refine brB (fun _ => ?_) (fun _ => ?_) <;> conv => whnf)
    | ((first | refine CallG.e hP ?_ | refine CallD.e hP ?_ | refine CallQ.e hP ?_); conv => whnf))
  all_goals
    refine RetG.drop rfl rfl rfl ⟨rfl, ?_, rfl⟩
    split <;> first | rfl | (exfalso; omega)

omit hE in
def joinT : List (List UInt8) → List UInt8
  | [] => []
  | x :: r => x ++ (r.map (32 :: ·)).flatten

omit hE in
theorem joinT_snoc (l : List (List UInt8)) (x : List UInt8) : joinT (l ++ [x]) = joinT l ++ (if l = [] then x else 32 :: x) := by
  match l with
  | [] => simp [joinT]
  | y :: r => simp [joinT]

omit hE in
theorem joinT_len_take (l : List (List UInt8)) (k : Nat) (h : k < l.length) : (joinT (l.take k)).length + (if l.take k = [] then l[k].length else 1 + l[k].length) ≤ (joinT l).length := by
  have h1 : joinT (l.take (k + 1)) = joinT (l.take k) ++ (if l.take k = [] then l[k] else 32 :: l[k]) := by
    rw [List.take_succ_eq_append_getElem h, joinT_snoc]
  have mono : ∀ (a b : List (List UInt8)), (joinT a).length ≤ (joinT (a ++ b)).length := fun a b => by
    match a with
    | [] => simp [joinT]
    | y :: r => simp [joinT]
  have h2 := mono (l.take (k + 1)) (l.drop (k + 1))
  rw [List.take_append_drop, h1, List.length_append] at h2
  split at h2 <;> rename_i h3 <;> simp only [h3, if_true, if_false] at * <;> simp at h2 ⊢ <;> omega

theorem joinC (f : FuncId) (cap : List AV) (hcap : RenL [(1, 0)] cap cap) (parts : List (List UInt8)) (bs : List UInt8) (hb : bs.length + (joinT parts).length < 1000000000) (hp0 : parts.length < big)
    (hpart : ∀ (x : Nat) (hx : x < parts.length) (b : List UInt8), b.length + parts[x].length < 1000000000 → BCalls E f ([.int .i64 x] ++ cap) [.bld 90 5 b] fun r ks => r = .tup [] ∧ ks = [.bld 90 5 (b ++ parts[x])]) :
    BCalls E 155 [.ptr 1 0 0, .pimm [.int .i64 parts.length], .pimm [.fn (.func f) [] cap]] [.bld 90 5 bs] fun r ks => r = .tup [] ∧ ks = [.bld 90 5 (bs ++ joinT parts)] := by
  unfold big at hp0
  refine b155 hE fun l => ?_
  conv => whnf
  repeat' (first
    | (refine And.intro W1 ?_; conv => whnf)
    | (refine brD (fun _ => ?_) (fun _ => ?_) <;> first | (exfalso; omega) | (conv => whnf))
    | (refine brB (fun _ => ?_) (fun _ => ?_) <;> conv => whnf))
  refine LoopG.s (fun x : Nat => x ≤ parts.length) 17 (fun x => [(0, .ptr 1 0 0), (1, .pimm [.int .i64 parts.length]), (2, .pimm [.fn (.func f) [] cap]), (5, .int .i64 parts.length), (6, .int .i64 x)]) (fun x => frmB l [.bld 90 5 (bs ++ joinT (parts.take x))]) (fun x => parts.length - x) 0 (by simp) rfl ⟨rfl, rfl, rfl, rfl, rfl⟩ (by simp [joinT]) ?_
  rintro x hx
  by_cases hlt : x < parts.length
  · have hj := joinT_len_take parts x hlt
    have hsn : joinT (parts.take (x + 1)) = joinT (parts.take x) ++ (if parts.take x = [] then parts[x] else 32 :: parts[x]) := by
      rw [List.take_succ_eq_append_getElem hlt, joinT_snoc]
    by_cases h0 : x = 0
    · subst h0
      have hj : parts[0].length ≤ (joinT parts).length := by simpa [show joinT ([] : List (List UInt8)) = [] from rfl] using hj
      have hc := hpart 0 hlt (bs ++ joinT (parts.take 0)) (by rw [List.take_zero, show joinT ([] : List (List UInt8)) = [] from rfl, List.append_nil]; omega)
      conv => whnf
      repeat' (first
        | (refine And.intro W1 ?_; conv => whnf)
        | (refine brD (fun _ => ?_) (fun _ => ?_) <;> first | (exfalso; omega) | (conv => whnf))
        | (refine brB (fun _ => ?_) (fun _ => ?_) <;> conv => whnf)
        | (refine CallG.b [(1, 0)] hc ⟨rfl, trivial⟩ ⟨.same _ rfl, hcap⟩ (fun r ks' hq _ _ => ?_); obtain ⟨rfl, rfl⟩ := hq; conv => whnf))
      refine ⟨1, ⟨by omega, by omega⟩, ?_⟩
      have e : bs ++ joinT (parts.take 0) ++ parts[0] = bs ++ joinT (parts.take 1) := by rw [hsn]; simp
      rw [e]
      exact Wk.slots rfl ⟨rfl, rfl, rfl, rfl, rfl⟩
    · have hne : parts.take x ≠ [] := by
        intro h; have := congrArg List.length h; rw [List.length_take, List.length_nil] at this; omega
      rw [if_neg hne] at hsn
      have hj2 : (joinT (parts.take x)).length + (1 + parts[x].length) ≤ (joinT parts).length := by rw [if_neg hne] at hj; exact hj
      have hw : BCalls E 98 [.ptr 1 0 0, .int .u8 32] [.bld 90 5 (bs ++ joinT (parts.take x))] fun r ks => r = .lit .nilIface ∧ ks = [.bld 90 5 (bs ++ joinT (parts.take x) ++ [32])] := writeByte hE _ 32 (by rw [List.length_append]; omega)
      have hc := hpart x hlt (bs ++ joinT (parts.take x) ++ [32]) (by simp only [List.length_append, List.length_cons, List.length_nil]; omega)
      conv => whnf
      repeat' (first
        | (refine And.intro W1 ?_; conv => whnf)
        | (refine brD (fun _ => ?_) (fun _ => ?_) <;> first | (exfalso; omega) | (conv => whnf))
        | (refine brB (fun _ => ?_) (fun _ => ?_) <;> conv => whnf)
        | (refine CallG.b [(1, 0)] hw ⟨rfl, trivial⟩ ⟨.ptr 0 1 0 0 rfl, .same _ rfl, trivial⟩ (fun r ks' hq _ _ => ?_); obtain ⟨rfl, rfl⟩ := hq; conv => whnf)
        | (refine CallG.b [(1, 0)] hc ⟨rfl, trivial⟩ ⟨.same _ rfl, hcap⟩ (fun r ks' hq _ _ => ?_); obtain ⟨rfl, rfl⟩ := hq; conv => whnf))
      refine ⟨x + 1, ⟨by omega, by omega⟩, ?_⟩
      have e : bs ++ joinT (parts.take x) ++ [32] ++ parts[x] = bs ++ joinT (parts.take (x + 1)) := by rw [hsn]; simp
      rw [e]
      exact Wk.slots rfl ⟨rfl, rfl, rfl, rfl, rfl⟩
  · have : x = parts.length := by omega
    subst this
    rw [List.take_length]
    conv => whnf
    repeat' (first
      | (refine And.intro W1 ?_; conv => whnf)
      | (refine brD (fun _ => ?_) (fun _ => ?_) <;> first | (exfalso; omega) | (conv => whnf))
      | (refine brB (fun _ => ?_) (fun _ => ?_) <;> conv => whnf))
    exact RetG.q ⟨rfl, _, rfl, rfl, rfl, rfl, rfl⟩
end Ink.D

namespace Ink.D
open Go Go.Proofs
set_option maxRecDepth 100000
variable {E : Env} (hE : E.P = Tryz.prog)

omit hE in
theorem Pub.ptr0 {H : List Blk} {n i ver : Nat} {t : TypeId} {cs : List AV} (hl : liveCells H i ver = some (t, cs)) (hi : n ≤ i) (hsc : ∀ x ∈ cs, sc x = true) (hh : hbL n cs = true) : Pub H n (.ptr i ver 0) (.pimm cs) :=
  .ptr i ver 0 t cs cs hl hi hsc (by simp) (fun j x y hx hy => by
    rw [Nat.zero_add, hx] at hy; cases hy
    exact .same _ (hbL_iff.mp hh _ (List.mem_of_getElem? hx)))

include hE
theorem join0 (n : Int) (f : Fn) (vf vc : Array Value) : PCalls E 99 [.int .i64 n, .lit (.func f vf vc)] (· = .fn (.func 155) [] [.pimm [.int .i64 n], .pimm [.lit (.func f vf vc)]]) := by
  refine PCalls.mk rfl fun l => ?_
  refine ACalls.enterW (by rw [hE]; exact hm) (by rw [hE]; exact Tryz.func99) (by rw [hE]; exact c99) rfl ⟨[.top, .top, .pimm [.int .i64 n], .pimm [.lit (.func f vf vc)], .top, .top], frm l⟩ ?_ ?_
  · conv => whnf
    repeat' (first
      | (refine And.intro W1 ?_; conv => whnf)
      | (refine brD (fun _ => ?_) (fun _ => ?_) <;> first | (exfalso; omega) | (conv => whnf))
      | (refine brB (fun _ => ?_) (fun _ => ?_) <;> conv => whnf))
    exact Wk.cut (l := [(2, .pimm [.int .i64 n]), (3, .pimm [.lit (.func f vf vc)])]) 1 rfl rfl rfl ⟨⟨_, rfl, Pub.ptr0 rfl (Nat.le_refl 1) (by simp [sc]) rfl⟩, ⟨_, rfl, Pub.ptr0 rfl (show 1 ≤ 2 by decide) (by simp [sc, Value.oneCell']) rfl⟩, trivial⟩ rfl rfl
  · conv => whnf
    repeat' (first
      | (refine And.intro W1 ?_; conv => whnf)
      | (refine brD (fun _ => ?_) (fun _ => ?_) <;> first | (exfalso; omega) | (conv => whnf))
      | (refine brB (fun _ => ?_) (fun _ => ?_) <;> conv => whnf))
    exact RetG.q ⟨rfl, rfl, rfl⟩

theorem join_ (n : Int) (f : Fn) (first cap : List AV) (H : List Blk) :
    ACalls E 99 [.int .i64 n, .fn f first cap] H fun r H' => r = .fn (.func 155) [] [.pimm [.int .i64 n], .pimm [.fn f first cap]] ∧ H' = H := by
  unfold ACalls
  intro c vs hH hr hg hl
  match vs, hl with
  | [], hl => cases hl.len
  | [_], hl => cases hl.len
  | _ :: _ :: _ :: _, hl => cases hl.len
  | [v, u], hl =>
    have hv := hl.at_ 0 _ v rfl rfl
    have hu := hl.at_ 1 _ u rfl rfl
    have hu' := hu
    cases hu with
    | fn _ _ _ vf vc h1 h2 h3 h4 =>
      have h := join0 hE n f vf vc
      unfold PCalls at h
      have h := h H
      unfold ACalls at h
      have h := h c [v, .func f vf vc] hH hr hg ⟨rfl, fun j x w hx hw => by
        match j, hx, hw with
        | 0, hx, hw => cases hx; cases hw; exact hv
        | 1, hx, hw => cases hx; cases hw; exact .lit _⟩
      refine h.mono fun w w' ⟨d, r, e1, e2, e3, e4, e5, e6⟩ => ⟨d, .fn (.func 155) [] [.pimm [.int .i64 n], .pimm [.fn f first cap]], e1, e2, e3, ?_, rfl, e6⟩
      subst e5
      cases e4 with
      | fn _ _ _ vf' vc' g1 g2 g3 g4 =>
        refine .fn _ _ _ vf' vc' g1 g2 g3 (fun j x w hx hw => ?_)
        match j, hx with
        | 0, hx => cases hx; exact g4 0 _ w rfl hw
        | 1, hx =>
          cases hx
          have := g4 1 _ w rfl hw
          cases this with
          | pimm _ a fa k1 k2 k3 k4 k5 k6 =>
            refine .pimm _ a fa (by simp [sc]) k2 k3 k4 k5 (fun j x hx => ?_)
            match j, hx with
            | 0, hx =>
              cases hx
              have := k6 0 _ rfl
              generalize fa 0 = z at *
              cases this
              exact hu'.ext e3
        | j + 2, hx => cases hx

theorem CallQ.join (n : Int) (f : FuncId) (first cap : List AV) {s : St} {K : AV → St → Prop} (k : K (.fn (.func 155) [] [.pimm [.int .i64 n], .pimm [.fn (.func f) first cap]]) s) : CallQ E (.fn (.func 99) [] []) [.int .i64 n, .fn (.func f) first cap] s K := by
  unfold CallQ
  exact ⟨99, [], [], _, rfl, fun X => join_ hE n (.func f) first cap (s.H ++ X), k⟩

theorem put1 (k n f : Int) (s : List UInt8) (l_ : List Ob) (d : List (List UInt8 × Ob)) (x : Nat) (hx : x < l_.length) (hl : l_.length < big) (b t : List UInt8)
    (hput : BCalls E 52 [.ptr 1 0 0, .agg (obC l_[x])] [.bld 90 5 b] fun r ks => r = .tup [] ∧ ks = [.bld 90 5 (b ++ t)]) :
    BCalls E 100 ([.int .i64 x] ++ [.pimm [.ptr 1 0 0], .pimm (obC (.mk k n f s l_ d))]) [.bld 90 5 b] fun r ks => r = .tup [] ∧ ks = [.bld 90 5 (b ++ t)] := by
  have hlen := obL_len l_
  have hg := obL_at hx
  have hhb := obC_hb (n0 := 0) l_[x]
  have hcl : ∃ c0 c1 c2 c3 c4 c5, obC l_[x] = [c0, c1, c2, c3, c4, c5] := by cases l_[x]; exact ⟨_, _, _, _, _, _, rfl⟩
  obtain ⟨c0, c1, c2, c3, c4, c5, hc⟩ := hcl
  rw [hc] at hg hput hhb
  unfold big at hl
  refine b100 hE fun l => ?_
  unfold obC
  conv => whnf
  repeat' (first
    | (rw [hg]; conv => whnf)
    | (refine And.intro W1 ?_; conv => whnf)
    | (refine brD (fun _ => ?_) (fun _ => ?_) <;> first | (exfalso; omega) | (conv => whnf))
    | (refine brB (fun _ => ?_) (fun _ => ?_) <;> conv => whnf)
    | (refine CallD.b [(1, 0)] hput ⟨rfl, trivial⟩ ⟨.ptr 0 1 0 0 rfl, .same _ hhb, trivial⟩ ?_; conv => whnf))
  exact RetG.q ⟨rfl, [.bld 90 5 (b ++ t)], rfl, rfl, rfl, rfl, rfl⟩

omit hE in
theorem obD_at {d : List (List UInt8 × Ob)} {k : Nat} (h : k < d.length) : (obD d).getD (k : Int).toNat [] = .str d[k].1 :: obC d[k].2 := by
  have e : (obD d).getD (k : Int).toNat [] = obE d[k] := by rw [obD_map]; simp [h]
  rw [e]
  generalize d[k] = p
  obtain ⟨a, b⟩ := p
  rfl

theorem put2 (k n f : Int) (s : List UInt8) (l_ : List Ob) (d : List (List UInt8 × Ob)) (x : Nat) (hx : x < d.length) (hl : d.length < big) (b t : List UInt8) (hs : d[x].1.length < 1000000) (hb : b.length + ((47 :: (d[x].1.map nameC).flatten) ++ [32]).length < 1000000000)
    (hput : BCalls E 52 [.ptr 1 0 0, .agg (obC d[x].2)] [.bld 90 5 (b ++ ((47 :: (d[x].1.map nameC).flatten) ++ [32]))] fun r ks => r = .tup [] ∧ ks = [.bld 90 5 (b ++ ((47 :: (d[x].1.map nameC).flatten) ++ [32]) ++ t)]) :
    BCalls E 101 ([.int .i64 x] ++ [.pimm [.ptr 1 0 0], .pimm (obC (.mk k n f s l_ d))]) [.bld 90 5 b] fun r ks => r = .tup [] ∧ ks = [.bld 90 5 (b ++ ((47 :: (d[x].1.map nameC).flatten) ++ [32]) ++ t)] := by
  have hlen := obD_len d
  have hg := obD_at hx
  have hN := nameOf hE d[x].1 hs
  have hnl : (47 :: (d[x].1.map nameC).flatten).length ≤ 3 * d[x].1.length + 1 := nameT_len d[x].1
  have hhb := obC_hb (n0 := 0) d[x].2
  have hcl : ∃ c0 c1 c2 c3 c4 c5, obC d[x].2 = [c0, c1, c2, c3, c4, c5] := by cases d[x].2; exact ⟨_, _, _, _, _, _, rfl⟩
  obtain ⟨c0, c1, c2, c3, c4, c5, hc⟩ := hcl
  rw [hc] at hg hput hhb
  generalize (47 :: (d[x].1.map nameC).flatten) = N at *
  have hW := writeString hE b (N ++ [32]) hb
  unfold big at hl
  refine b101 hE fun l => ?_
  unfold obC
  conv => whnf
  repeat' (first
    | (rw [hg]; conv => whnf)
    | (refine And.intro W1 ?_; conv => whnf)
    | (refine brD (fun _ => ?_) (fun _ => ?_) <;> first | (exfalso; omega) | (conv => whnf))
    | (refine brB (fun _ => ?_) (fun _ => ?_) <;> conv => whnf)
    | ((first | refine CallG.e hN ?_ | refine CallD.e hN ?_ | refine CallQ.e hN ?_); conv => whnf)
    | (refine CallD.b [(1, 0)] hW ⟨rfl, trivial⟩ ⟨.ptr 0 1 0 0 rfl, .same _ rfl, trivial⟩ ?_; conv => whnf)
    | (refine CallD.b [(1, 0)] hput ⟨rfl, trivial⟩ ⟨.ptr 0 1 0 0 rfl, .same _ hhb, trivial⟩ ?_; conv => whnf))
  exact RetG.q ⟨rfl, [.bld 90 5 (b ++ (N ++ [32]) ++ t)], rfl, rfl, rfl, rfl, rfl⟩
end Ink.D

namespace Ink.D
open Go Go.Proofs
set_option maxRecDepth 100000
variable {E : Env} (hE : E.P = Tryz.prog)

mutual
def txt : Ob → List UInt8
  | .mk k n f s l d =>
    if k = 0 then [110, 117, 108, 108]
    else if k = 1 then (if decide (n = 1) then [116, 114, 117, 101] else [102, 97, 108, 115, 101])
    else if k = 2 then numT n f
    else if k = 3 then 47 :: (s.map nameC).flatten
    else if k = 4 then 40 :: (s.map quoteC).flatten ++ [41]
    else if k = 7 then Lib.itoa n ++ [32] ++ printL f ++ [32, 82]
    else if k = 5 then [91] ++ joinT (txtL l) ++ [93]
    else [60, 60] ++ joinT (txtD d) ++ [62, 62]
def txtL : List Ob → List (List UInt8)
  | [] => []
  | o :: r => txt o :: txtL r
def txtD : List (List UInt8 × Ob) → List (List UInt8)
  | [] => []
  | e :: r => txtE e :: txtD r
def txtE : List UInt8 × Ob → List UInt8
  | (k, o) => (47 :: (k.map nameC).flatten) ++ [32] ++ txt o
end

theorem txtL_map : ∀ l, txtL l = l.map txt
  | [] => rfl
  | o :: r => by simp [txtL, txtL_map r]
theorem txtD_map : ∀ l, txtD l = l.map txtE
  | [] => rfl
  | o :: r => by simp [txtD, txtD_map r]

mutual
def okW : Ob → Bool
  | .mk k _ f s l d => (!(decide (k = 2 ∨ k = 7)) || mayF f) && decide (s.length < 1000000) && decide (l.length < big) && decide (d.length < big) && (!decide (k = 5) || okWs l) && (decide (k = 0 ∨ k = 1 ∨ k = 2 ∨ k = 3 ∨ k = 4 ∨ k = 5 ∨ k = 7) || okWd d)
def okWs : List Ob → Bool
  | [] => true
  | o :: r => okW o && okWs r
def okWd : List (List UInt8 × Ob) → Bool
  | [] => true
  | e :: r => okWe e && okWd r
def okWe : List UInt8 × Ob → Bool
  | (k, o) => decide (k.length < 1000000) && okW o
end

theorem okWs_at : ∀ {l : List Ob} {k : Nat} (h : k < l.length), okWs l = true → okW l[k] = true
  | o :: r, 0, _, h => by simp [okWs] at h; exact h.1
  | o :: r, k + 1, hk, h => by simp [okWs] at h; exact okWs_at (l := r) (by simpa using hk) h.2

theorem okWd_at : ∀ {l : List (List UInt8 × Ob)} {k : Nat} (h : k < l.length), okWd l = true → okWe l[k] = true
  | o :: r, 0, _, h => by simp [okWd] at h; exact h.1
  | o :: r, k + 1, hk, h => by simp [okWd] at h; exact okWd_at (l := r) (by simpa using hk) h.2

theorem ren0 {cs : List AV} (h : hbL 0 cs = true) : RenL [(1, 0)] [.pimm [.ptr 1 0 0], .pimm cs] [.pimm [.ptr 1 0 0], .pimm cs] :=
  ⟨.pimm _ _ rfl (by simp [sc]) (fun j x y hx hy => by
    match j, hx, hy with
    | 0, hx, hy => cases hx; cases hy; exact .ptr 0 1 0 0 rfl), .same _ h, trivial⟩

theorem renJ {n : Int} {f : FuncId} {cap : List AV} (h : RenL [(1, 0)] cap cap) : RenL [(1, 0)] [.ptr 1 0 0, .pimm [.int .i64 n], .pimm [.fn (.func f) [] cap]] ([] ++ [.ptr 1 0 0] ++ [.pimm [.int .i64 n], .pimm [.fn (.func f) [] cap]]) :=
  ⟨.ptr 0 1 0 0 rfl, .same _ rfl, .pimm _ _ rfl (by simp [sc]) (fun j x y hx hy => by
    match j, hx, hy with
    | 0, hx, hy =>
      cases hx; cases hy
      obtain ⟨h1, h2⟩ := h.spec
      exact .fn _ _ _ _ _ rfl rfl (fun j x y hx => by simp at hx) h2), trivial⟩

include hE
set_option maxHeartbeats 2000000 in
theorem put (hT : TabE E) : ∀ (m : Nat) (o : Ob), sizeOf o < m → okW o = true → ∀ bs : List UInt8, bs.length + (txt o).length < 1000000000 →
    BCalls E 52 [.ptr 1 0 0, .agg (obC o)] [.bld 90 5 bs] fun r ks => r = .tup [] ∧ ks = [.bld 90 5 (bs ++ txt o)]
  | 0, _, h, _, _, _ => absurd h (Nat.not_lt_zero _)
  | m + 1, .mk k n f s l_ d, hm, hok, bs, hbs => by
    simp only [okW, Bool.and_eq_true, Bool.or_eq_true, Bool.not_eq_true', decide_eq_true_eq, decide_eq_false_iff_not] at hok
    obtain ⟨⟨⟨⟨⟨hf, hs⟩, hnl⟩, hnd⟩, hol⟩, hod⟩ := hok
    have hL : ∀ n0, hbLL n0 (obL l_) = true := fun n0 => obL_hb l_
    have hD : ∀ n0, hbLL n0 (obD d) = true := fun n0 => obD_hb d
    have hC : ∀ n0, hbL n0 (obC (.mk k n f s l_ d)) = true := fun n0 => obC_hb _
    have hlen := obL_len l_
    have hlenD := obD_len d
    refine BCalls.mk fun l => ?_
    refine ACalls.enterW (by rw [hE]; exact Ink.D.hm) (by rw [hE]; exact Tryz.func52) (by rw [hE]; exact c52) rfl ⟨slots 75 [(2, .pimm [.ptr 1 0 0]), (3, .pimm (obC (.mk k n f s l_ d)))], frmB l [.bld 90 5 bs]⟩ ?_ ?_
    · unfold obC
      conv => whnf
      repeat' (first
        | (refine And.intro W1 ?_; conv => whnf)
        | (refine brD (fun _ => ?_) (fun _ => ?_) <;> first | (exfalso; omega) | (conv => whnf))
        | (refine brB (fun _ => ?_) (fun _ => ?_) <;> conv => whnf))
      exact Wk.cut 2 rfl rfl rfl ⟨⟨_, rfl, Pub.ptr0 rfl (Nat.le_refl 2) (by simp [sc]) rfl⟩, ⟨_, rfl, Pub.ptr0 rfl (show 2 ≤ 3 by decide) (by simp [sc]) (by simp [hbL, hb, hL, hD])⟩, trivial⟩ rfl rfl
    · by_cases h0 : k = 0
      · subst h0
        have e : txt (.mk 0 n f s l_ d) = [110, 117, 108, 108] := by rw [txt]; rfl
        rw [e] at hbs ⊢
        have hW := writeString hE bs _ hbs
        unfold obC
        conv => whnf
        repeat' (first
          | (refine And.intro W1 ?_; conv => whnf)
          | (refine brD (fun _ => ?_) (fun _ => ?_) <;> first | (exfalso; omega) | (conv => whnf))
          | (refine brB (fun _ => ?_) (fun _ => ?_) <;> conv => whnf)
          | (refine CallG.b [(1, 0)] hW ⟨rfl, trivial⟩ ⟨.ptr 0 1 0 0 rfl, .same _ rfl, trivial⟩ (fun r ks' hq _ _ => ?_); obtain ⟨rfl, rfl⟩ := hq; conv => whnf))
        exact RetG.q ⟨rfl, [.bld 90 5 (bs ++ [110, 117, 108, 108])], rfl, rfl, rfl, rfl, rfl⟩
      by_cases h1 : k = 1
      · subst h1
        have e : txt (.mk 1 n f s l_ d) = if decide (n = 1) then [116, 114, 117, 101] else [102, 97, 108, 115, 101] := by rw [txt]; rfl
        rw [e] at hbs ⊢
        have hW := writeString hE bs _ hbs
        unfold obC
        conv => whnf
        repeat' (first
          | (refine And.intro W1 ?_; conv => whnf)
          | (refine brD (fun _ => ?_) (fun _ => ?_) <;> first | (exfalso; omega) | (conv => whnf))
          | (refine brB (fun _ => ?_) (fun _ => ?_) <;> conv => whnf)
          | ((first | refine CallG.e (formatBool hE _) ?_ | refine CallD.e (formatBool hE _) ?_ | refine CallQ.e (formatBool hE _) ?_ | refine CallP.e (formatBool hE _) ?_); conv => whnf)
          | (refine CallD.b [(1, 0)] hW ⟨rfl, trivial⟩ ⟨.ptr 0 1 0 0 rfl, .same _ rfl, trivial⟩ ?_; conv => whnf))
        exact RetG.q ⟨rfl, [.bld 90 5 (bs ++ (if decide (n = 1) then [116, 114, 117, 101] else [102, 97, 108, 115, 101]))], rfl, rfl, rfl, rfl, rfl⟩
      by_cases h2 : k = 2
      · subst h2
        have e : txt (.mk 2 n f s l_ d) = numT n f := by rw [txt]; rfl
        rw [e] at hbs ⊢
        have hW := writeString hE bs _ hbs
        have hN := number hE hT 2 n f s l_ d (by simpa using hf)
        unfold obC at hN
        unfold obC
        conv => whnf
        repeat' (first
          | (refine And.intro W1 ?_; conv => whnf)
          | (refine brD (fun _ => ?_) (fun _ => ?_) <;> first | (exfalso; omega) | (conv => whnf))
          | (refine brB (fun _ => ?_) (fun _ => ?_) <;> conv => whnf)
          | ((first | refine CallG.e hN ?_ | refine CallD.e hN ?_ | refine CallQ.e hN ?_ | refine CallP.e hN ?_); conv => whnf)
          | (refine CallD.b [(1, 0)] hW ⟨rfl, trivial⟩ ⟨.ptr 0 1 0 0 rfl, .same _ rfl, trivial⟩ ?_; conv => whnf))
        exact RetG.q ⟨rfl, [.bld 90 5 (bs ++ (numT n f))], rfl, rfl, rfl, rfl, rfl⟩
      by_cases h3 : k = 3
      · subst h3
        have e : txt (.mk 3 n f s l_ d) = 47 :: (s.map nameC).flatten := by rw [txt]; rfl
        rw [e] at hbs ⊢
        have hW := writeString hE bs _ hbs
        have hN := nameOf hE s hs
        unfold obC
        conv => whnf
        repeat' (first
          | (refine And.intro W1 ?_; conv => whnf)
          | (refine brD (fun _ => ?_) (fun _ => ?_) <;> first | (exfalso; omega) | (conv => whnf))
          | (refine brB (fun _ => ?_) (fun _ => ?_) <;> conv => whnf)
          | ((first | refine CallG.e hN ?_ | refine CallD.e hN ?_ | refine CallQ.e hN ?_ | refine CallP.e hN ?_); conv => whnf)
          | (refine CallD.b [(1, 0)] hW ⟨rfl, trivial⟩ ⟨.ptr 0 1 0 0 rfl, .same _ rfl, trivial⟩ ?_; conv => whnf))
        exact RetG.q ⟨rfl, [.bld 90 5 (bs ++ (47 :: (s.map nameC).flatten))], rfl, rfl, rfl, rfl, rfl⟩
      by_cases h4 : k = 4
      · subst h4
        have e : txt (.mk 4 n f s l_ d) = 40 :: (s.map quoteC).flatten ++ [41] := by rw [txt]; rfl
        rw [e] at hbs ⊢
        have hW := writeString hE bs _ hbs
        have hN := quote hE s hs
        unfold obC
        conv => whnf
        repeat' (first
          | (refine And.intro W1 ?_; conv => whnf)
          | (refine brD (fun _ => ?_) (fun _ => ?_) <;> first | (exfalso; omega) | (conv => whnf))
          | (refine brB (fun _ => ?_) (fun _ => ?_) <;> conv => whnf)
          | ((first | refine CallG.e hN ?_ | refine CallD.e hN ?_ | refine CallQ.e hN ?_ | refine CallP.e hN ?_); conv => whnf)
          | (refine CallD.b [(1, 0)] hW ⟨rfl, trivial⟩ ⟨.ptr 0 1 0 0 rfl, .same _ rfl, trivial⟩ ?_; conv => whnf))
        exact RetG.q ⟨rfl, [.bld 90 5 (bs ++ (40 :: (s.map quoteC).flatten ++ [41]))], rfl, rfl, rfl, rfl, rfl⟩
      by_cases h7 : k = 7
      · subst h7
        have e : txt (.mk 7 n f s l_ d) = Lib.itoa n ++ [32] ++ printL f ++ [32, 82] := by rw [txt]; rfl
        rw [e] at hbs ⊢
        have hW := writeString hE bs _ hbs
        have hN := print hE hT f (by simpa using hf)
        have hI := itoa hE hT n
        have hlW := hbs
        simp only [List.length_append, List.length_cons, List.length_nil] at hlW
        unfold obC
        conv => whnf
        repeat' (first
          | (refine And.intro W1 ?_; conv => whnf)
          | (refine brD (fun _ => ?_) (fun _ => ?_) <;> first | (exfalso; omega) | (conv => whnf))
          | (refine brB (fun _ => ?_) (fun _ => ?_) <;> conv => whnf)
          | ((first | refine CallG.e hI ?_ | refine CallD.e hI ?_ | refine CallQ.e hI ?_ | refine CallP.e hI ?_); conv => whnf)
          | ((first | refine CallG.e hN ?_ | refine CallD.e hN ?_ | refine CallQ.e hN ?_ | refine CallP.e hN ?_); conv => whnf)
          | (refine CallD.b [(1, 0)] hW ⟨rfl, trivial⟩ ⟨.ptr 0 1 0 0 rfl, .same _ rfl, trivial⟩ ?_; conv => whnf))
        exact RetG.q ⟨rfl, [.bld 90 5 (bs ++ (Lib.itoa n ++ [32] ++ printL f ++ [32, 82]))], rfl, rfl, rfl, rfl, rfl⟩
      by_cases h5 : k = 5
      · subst h5
        have e : txt (.mk 5 n f s l_ d) = [91] ++ joinT (txtL l_) ++ [93] := by rw [txt]; rfl
        rw [e] at hbs ⊢
        have hpl : (txtL l_).length = l_.length := by rw [txtL_map]; simp
        have hb1 : bs.length + (joinT (txtL l_)).length + 2 < 1000000000 := by simp only [List.length_append, List.length_cons, List.length_nil] at hbs; omega
        have w1 : BCalls E 98 [.ptr 1 0 0, .int .u8 91] [.bld 90 5 bs] fun r ks => r = .lit .nilIface ∧ ks = [.bld 90 5 (bs ++ [91])] := writeByte hE _ 91 (by omega)
        have w2 : BCalls E 98 [.ptr 1 0 0, .int .u8 93] [.bld 90 5 (bs ++ [91] ++ joinT (txtL l_))] fun r ks => r = .lit .nilIface ∧ ks = [.bld 90 5 (bs ++ [91] ++ joinT (txtL l_) ++ [93])] := writeByte hE _ 93 (by simp only [List.length_append, List.length_cons, List.length_nil]; omega)
        have ren := ren0 (hC 0)
        have hJ : BCalls E 155 [.ptr 1 0 0, .pimm [.int .i64 (obL l_).length], .pimm [.fn (.func 100) [] [.pimm [.ptr 1 0 0], .pimm (obC (.mk 5 n f s l_ d))]]] [.bld 90 5 (bs ++ [91])] fun r ks => r = .tup [] ∧ ks = [.bld 90 5 (bs ++ [91] ++ joinT (txtL l_))] := by
          rw [hlen, ← hpl]
          refine joinC hE 100 _ ren (txtL l_) _ (by simp only [List.length_append, List.length_cons, List.length_nil]; omega) (by omega) (fun x hx b hb => ?_)
          have hx' : x < l_.length := by omega
          have ex : (txtL l_)[x] = txt l_[x] := by simp [txtL_map]
          rw [ex] at hb ⊢
          exact put1 hE 5 n f s l_ d x hx' hnl b _ (put hT m _ (by
            have := List.sizeOf_lt_of_mem (List.getElem_mem hx')
            simp only [Ob.mk.sizeOf_spec] at hm
            omega) (okWs_at hx' (hol.resolve_left (by simp))) b hb)
        have rj := renJ (n := (obL l_).length) (f := 100) ren
        unfold big at hnl
        unfold obC at hJ rj ⊢
        conv => whnf
        repeat' (first
          | (refine And.intro W1 ?_; conv => whnf)
          | (refine brD (fun _ => ?_) (fun _ => ?_) <;> first | (exfalso; omega) | (conv => whnf))
          | (refine brB (fun _ => ?_) (fun _ => ?_) <;> conv => whnf)
          | (refine CallG.b [(1, 0)] w1 ⟨rfl, trivial⟩ ⟨.ptr 0 1 0 0 rfl, .same _ rfl, trivial⟩ (fun r ks' hq _ _ => ?_); obtain ⟨rfl, rfl⟩ := hq; conv => whnf)
          | (refine CallQ.join hE _ _ _ _ ?_; conv => whnf)
          | (refine CallD.b [(1, 0)] hJ ⟨rfl, trivial⟩ rj ?_; conv => whnf)
          | (refine CallG.b [(1, 0)] w2 ⟨rfl, trivial⟩ ⟨.ptr 0 1 0 0 rfl, .same _ rfl, trivial⟩ (fun r ks' hq _ _ => ?_); obtain ⟨rfl, rfl⟩ := hq; conv => whnf))
        exact RetG.q ⟨rfl, [.bld 90 5 (bs ++ [91] ++ joinT (txtL l_) ++ [93])], rfl, rfl, rfl, rfl, by simp⟩
      · have e : txt (.mk k n f s l_ d) = [60, 60] ++ joinT (txtD d) ++ [62, 62] := by rw [txt, if_neg h0, if_neg h1, if_neg h2, if_neg h3, if_neg h4, if_neg h7, if_neg h5]
        rw [e] at hbs ⊢
        have hpl : (txtD d).length = d.length := by rw [txtD_map]; simp
        have hb1 : bs.length + (joinT (txtD d)).length + 4 < 1000000000 := by simp only [List.length_append, List.length_cons, List.length_nil] at hbs; omega
        have w1 := writeString hE bs [60, 60] (by simp only [List.length_append, List.length_cons, List.length_nil]; omega)
        have w2 := writeString hE (bs ++ [60, 60] ++ joinT (txtD d)) [62, 62] (by simp only [List.length_append, List.length_cons, List.length_nil]; omega)
        have ren := ren0 (hC 0)
        have hJ : BCalls E 155 [.ptr 1 0 0, .pimm [.int .i64 (obD d).length], .pimm [.fn (.func 101) [] [.pimm [.ptr 1 0 0], .pimm (obC (.mk k n f s l_ d))]]] [.bld 90 5 (bs ++ [60, 60])] fun r ks => r = .tup [] ∧ ks = [.bld 90 5 (bs ++ [60, 60] ++ joinT (txtD d))] := by
          rw [hlenD, ← hpl]
          refine joinC hE 101 _ ren (txtD d) _ (by simp only [List.length_append, List.length_cons, List.length_nil]; omega) (by omega) (fun x hx b hb => ?_)
          have hx' : x < d.length := by omega
          have ex : (txtD d)[x] = (47 :: (d[x].1.map nameC).flatten) ++ [32] ++ txt d[x].2 := by
            rw [List.getElem_of_eq (txtD_map d)]; simp only [List.getElem_map]
            generalize d[x] = p; obtain ⟨a, b⟩ := p; rfl
          have hke : d[x].1.length < 1000000 ∧ okW d[x].2 = true := by
            have := okWd_at hx' (hod.resolve_left (by omega))
            generalize d[x] = p at *; obtain ⟨a, b⟩ := p
            simpa [okWe] using this
          rw [ex] at hb ⊢
          rw [← List.append_assoc]
          refine put2 hE k n f s l_ d x hx' hnd b _ hke.1 (by rw [List.length_append] at hb; omega) (put hT m _ (by
            have := List.sizeOf_lt_of_mem (List.getElem_mem hx')
            have h2 : sizeOf d[x].2 < sizeOf d[x] := by
              generalize d[x] = p; obtain ⟨a, b⟩ := p; simp; omega
            simp only [Ob.mk.sizeOf_spec] at hm
            omega) hke.2 _ (by rw [List.length_append] at hb ⊢; omega))
        have rj := renJ (n := (obD d).length) (f := 101) ren
        unfold big at hnd
        unfold obC at hJ rj ⊢
        conv => whnf
        repeat' (first
          | (refine And.intro W1 ?_; conv => whnf)
          | (refine brD (fun _ => ?_) (fun _ => ?_) <;> first | (exfalso; omega) | (conv => whnf))
          | (refine brB (fun _ => ?_) (fun _ => ?_) <;> conv => whnf)
          | (refine CallG.b [(1, 0)] w1 ⟨rfl, trivial⟩ ⟨.ptr 0 1 0 0 rfl, .same _ rfl, trivial⟩ (fun r ks' hq _ _ => ?_); obtain ⟨rfl, rfl⟩ := hq; conv => whnf)
          | (refine CallQ.join hE _ _ _ _ ?_; conv => whnf)
          | (refine CallD.b [(1, 0)] hJ ⟨rfl, trivial⟩ rj ?_; conv => whnf)
          | (refine CallG.b [(1, 0)] w2 ⟨rfl, trivial⟩ ⟨.ptr 0 1 0 0 rfl, .same _ rfl, trivial⟩ (fun r ks' hq _ _ => ?_); obtain ⟨rfl, rfl⟩ := hq; conv => whnf))
        exact RetG.q ⟨rfl, [.bld 90 5 (bs ++ [60, 60] ++ joinT (txtD d) ++ [62, 62])], rfl, rfl, rfl, rfl, by simp⟩
end Ink.D

namespace Ink.D
open Go Go.Proofs
set_option maxRecDepth 100000
variable {E : Env} (hE : E.P = Tryz.prog)

def objAV (o : Ob) : AV := if saneL o 0 = 0 then .tup [.str (txt o), .int .i64 0] else .tup [.str [], .int .i64 (saneL o 0)]

include hE
theorem object (hT : TabE E) (o : Ob) (hno : noD o = true) (hok : saneL o 0 = 0 → okW o = true ∧ (txt o).length < 1000000000) : PCalls E 19 [.agg (obC o)] (· = objAV o) := by
  have hS := sane60 hE o hno
  have h8 : ∀ k n f s l d, o = .mk k n f s l d → k ≠ 8 := by
    rintro k n f s l d rfl
    simp only [noD, Bool.and_eq_true, decide_eq_true_eq] at hno
    exact hno.1.1.1.2
  have hhb := obC_hb (n0 := 0) o
  refine p19 hE (fun l => ?_) (by simp [hbL, hb, obC_hb])
  unfold objAV
  by_cases h0 : saneL o 0 = 0
  · rw [if_pos h0]
    rw [h0] at hS
    obtain ⟨k1, k2⟩ := hok h0
    have hP := put hE hT _ o (Nat.lt_succ_self _) k1 [] (by simpa using k2)
    rw [List.nil_append] at hP
    have hStr := string hE (txt o) k2
    generalize txt o = T at *
    cases o with
    | mk k n f s l_ d =>
      have h8 := h8 k n f s l_ d rfl
      unfold obC at hP hS hhb ⊢
      conv => whnf
      repeat' (first
        | (refine And.intro W1 ?_; conv => whnf)
        | (refine brD (fun _ => ?_) (fun _ => ?_) <;> first | (exfalso; omega) | (conv => whnf))
        | (refine brB (fun _ => ?_) (fun _ => ?_) <;> conv => whnf)
        | ((first | refine CallG.e hS ?_ | refine CallD.e hS ?_ | refine CallQ.e hS ?_); conv => whnf)
        | (refine CallG.b [(2, 0)] hP ⟨rfl, trivial⟩ ⟨.ptr 0 2 0 0 rfl, .same _ hhb, trivial⟩ (fun r ks' hq _ _ => ?_); obtain ⟨rfl, rfl⟩ := hq; conv => whnf)
        | (refine CallG.b [(2, 0)] hStr ⟨rfl, trivial⟩ ⟨.ptr 0 2 0 0 rfl, trivial⟩ (fun r ks' hq _ _ => ?_); obtain ⟨rfl, rfl⟩ := hq; conv => whnf))
      exact RetG.drop rfl rfl rfl ⟨rfl, rfl, rfl⟩
  · rw [if_neg h0]
    cases o with
    | mk k n f s l_ d =>
      unfold obC at hS ⊢
      conv => whnf
      repeat' (first
        | (refine And.intro W1 ?_; conv => whnf)
        | (refine brD (fun _ => ?_) (fun _ => ?_) <;> first | (exfalso; omega) | (conv => whnf))
        | (refine brB (fun _ => ?_) (fun _ => ?_) <;> conv => whnf)
        | ((first | refine CallG.e hS ?_ | refine CallD.e hS ?_ | refine CallQ.e hS ?_); conv => whnf))
      exact RetG.drop rfl rfl rfl ⟨rfl, rfl, rfl⟩

omit hE in
theorem noD_8 {k n f : Int} {s : List UInt8} {l : List Ob} {d : List (List UInt8 × Ob)} (hno : noD (.mk k n f s l d) = true) : k ≠ 8 := by
  simp only [noD, Bool.and_eq_true, decide_eq_true_eq] at hno
  exact hno.1.1.1.2

theorem may0 (n g : Int) (o : Ob) (hno : noD o = true) (h0 : saneL o 0 = 0) (hn : 0 ≤ n ∧ n ≤ 2147483) (hg : 0 ≤ g ∧ g ≤ 2147483) : PCalls E 55 [.int .i64 n, .int .i64 g, .agg (obC o)] (· = .int .i64 0) := by
  have hS := sane60 hE o hno
  rw [h0] at hS
  refine p55 hE (fun l => ?_) (by simp [hbL, hb, obC_hb])
  cases o with
  | mk k n f s l_ d =>
    have h8 := noD_8 hno
    unfold obC at hS ⊢
    conv => whnf
    repeat' (first
      | (refine And.intro W1 ?_; conv => whnf)
      | (refine brD (fun _ => ?_) (fun _ => ?_) <;> first | (exfalso; omega) | (conv => whnf))
      | (refine brB (fun _ => ?_) (fun _ => ?_) <;> conv => whnf)
      | ((first | refine CallG.e hS ?_ | refine CallD.e hS ?_ | refine CallQ.e hS ?_); conv => whnf))
    exact RetG.drop rfl rfl rfl ⟨rfl, rfl, rfl⟩

theorem indirect0 (hT : TabE E) (n g : Int) (o : Ob) (hno : noD o = true) (h0 : saneL o 0 = 0) (hn : 0 ≤ n ∧ n ≤ 2147483) (hg : 0 ≤ g ∧ g ≤ 2147483) (k1 : okW o = true) (k2 : (txt o).length < 100000000) :
    PCalls E 21 [.int .i64 n, .int .i64 g, .agg (obC o)] (· = .tup [.str (Lib.itoa n ++ [32] ++ Lib.itoa g ++ [32, 111, 98, 106, 10] ++ txt o ++ [10, 101, 110, 100, 111, 98, 106, 10]), .int .i64 0]) := by
  have hM := may0 hE n g o hno h0 hn hg
  have hn1 := itoa hE hT n
  have hg1 := itoa hE hT g
  have hi : ∀ z : Int, 0 ≤ z → z ≤ 2147483 → (Lib.itoa z).length ≤ 10 := fun z h1 h2 => by
    unfold Lib.itoa
    rw [if_neg (by omega)]
    exact dec_len 9 _ (by omega)
  have hin := hi n hn.1 hn.2
  have hig := hi g hg.1 hg.2
  generalize Lib.itoa n = N at *
  generalize Lib.itoa g = G at *
  have hhb := obC_hb (n0 := 0) o
  have hP := put hE hT _ o (Nat.lt_succ_self _) k1 (N ++ [32] ++ G ++ [32, 111, 98, 106, 10]) (by simp only [List.length_append, List.length_cons, List.length_nil]; omega)
  have hW1 := writeString hE [] (N ++ [32] ++ G ++ [32, 111, 98, 106, 10]) (by simp only [List.length_append, List.length_cons, List.length_nil]; omega)
  have hW2 := writeString hE (N ++ [32] ++ G ++ [32, 111, 98, 106, 10] ++ txt o) [10, 101, 110, 100, 111, 98, 106, 10] (by simp only [List.length_append, List.length_cons, List.length_nil]; omega)
  have hStr := string hE (N ++ [32] ++ G ++ [32, 111, 98, 106, 10] ++ txt o ++ [10, 101, 110, 100, 111, 98, 106, 10]) (by simp only [List.length_append, List.length_cons, List.length_nil]; omega)
  rw [List.nil_append] at hW1
  generalize txt o = T at *
  refine p21 hE (fun l => ?_) (by simp [hbL, hb, obC_hb])
  cases o with
  | mk k n f s l_ d =>
    have h8 := noD_8 hno
    unfold obC at hM hP hhb ⊢
    conv => whnf
    repeat' (first
      | (refine And.intro W1 ?_; conv => whnf)
      | (refine brD (fun _ => ?_) (fun _ => ?_) <;> first | (exfalso; omega) | (conv => whnf))
      | (refine brB (fun _ => ?_) (fun _ => ?_) <;> conv => whnf)
      | ((first | refine CallG.e hM ?_ | refine CallD.e hM ?_ | refine CallQ.e hM ?_); conv => whnf)
      | ((first | refine CallG.e hn1 ?_ | refine CallD.e hn1 ?_ | refine CallQ.e hn1 ?_); conv => whnf)
      | ((first | refine CallG.e hg1 ?_ | refine CallD.e hg1 ?_ | refine CallQ.e hg1 ?_); conv => whnf)
      | (refine CallG.b [(2, 0)] hP ⟨rfl, trivial⟩ ⟨.ptr 0 2 0 0 rfl, .same _ hhb, trivial⟩ (fun r ks' hq _ _ => ?_); obtain ⟨rfl, rfl⟩ := hq; conv => whnf)
      | (refine CallG.b [(2, 0)] hStr ⟨rfl, trivial⟩ ⟨.ptr 0 2 0 0 rfl, trivial⟩ (fun r ks' hq _ _ => ?_); obtain ⟨rfl, rfl⟩ := hq; conv => whnf)
      | (refine CallG.b [(2, 0)] hW1 ⟨rfl, trivial⟩ ⟨.ptr 0 2 0 0 rfl, .same _ rfl, trivial⟩ (fun r ks' hq _ _ => ?_); obtain ⟨rfl, rfl⟩ := hq; conv => whnf)
      | (refine CallG.b [(2, 0)] hW2 ⟨rfl, trivial⟩ ⟨.ptr 0 2 0 0 rfl, .same _ rfl, trivial⟩ (fun r ks' hq _ _ => ?_); obtain ⟨rfl, rfl⟩ := hq; conv => whnf))
    exact RetG.drop rfl rfl rfl ⟨rfl, rfl, rfl⟩
end Ink.D

namespace Ink.D
open Go Go.Proofs
set_option maxRecDepth 100000
variable {E : Env} (hE : E.P = Tryz.prog)

abbrev nilS : AV := .lit (.slice none 0 0)

theorem dec1000 : Lib.decDigits 1000 = [49, 48, 48, 48] := by
  simp [Lib.decDigits]
theorem dec1 : Lib.decDigits 1 = [49] := by
  rw [Lib.decDigits_one (by decide)]; decide
theorem dec0 : Lib.decDigits 0 = [48] := by
  rw [Lib.decDigits_one (by decide)]; decide

theorem print1000 : printL 1000 = [49] := by
  unfold printL fixB
  rw [show (1000 : Int).natAbs = 1000 from rfl, dec1000]
  decide +kernel

abbrev ob1 : Ob := .mk 5 0 0 [] [.mk 2 1 1000 [] [] [], .mk 3 0 0 [65] [] []] []

theorem ob1_txt : txt ob1 = [91, 49, 32, 47, 65, 93] := by
  simp only [ob1, txt, txtL, numT, print1000]
  decide +kernel

theorem ob1_sane : saneL ob1 0 = 0 := by decide +kernel
theorem ob1_noD : noD ob1 = true := by decide +kernel
theorem ob1_ok : okW ob1 = true := by decide +kernel

abbrev ob0 : Ob := .mk 0 0 0 [] [] []
abbrev ob9 : Ob := .mk 9 0 0 [] [] []

include hE
theorem object1 (hT : TabE E) : PCalls E 19 [.agg [.int .i64 5, .int .i64 0, .int .i64 0, .str [], .imm 6 [[.int .i64 2, .int .i64 1, .int .i64 1000, .str [], nilS, nilS], [.int .i64 3, .int .i64 0, .int .i64 0, .str [65], nilS, nilS]], nilS]] (· = .tup [.str [91, 49, 32, 47, 65, 93], .int .i64 0]) := by
  have h := object hE hT ob1 ob1_noD (fun _ => ⟨ob1_ok, by rw [ob1_txt]; decide⟩)
  have e : objAV ob1 = .tup [.str [91, 49, 32, 47, 65, 93], .int .i64 0] := by unfold objAV; rw [if_pos ob1_sane, ob1_txt]
  rw [e] at h
  simp only [ob1, obC, obL, obD] at h
  refine h.pub fun n => ⟨Pub.aggL ⟨.same _ rfl, .same _ rfl, .same _ rfl, .same _ rfl, Pub.immL rfl ⟨.same _ rfl, .same _ rfl, .same _ rfl, .same _ rfl, .nil _ _, .nil _ _, .same _ rfl, .same _ rfl, .same _ rfl, .same _ rfl, .nil _ _, .nil _ _, trivial⟩ (by simp) (by simp [sc]), .nil _ _, trivial⟩ (by simp [sc]), trivial⟩

theorem indirect1 (hT : TabE E) : PCalls E 21 [.int .i64 1, .int .i64 0, .agg [.int .i64 0, .int .i64 0, .int .i64 0, .str [], nilS, nilS]] (· = .tup [.str [49, 32, 48, 32, 111, 98, 106, 10, 110, 117, 108, 108, 10, 101, 110, 100, 111, 98, 106, 10], .int .i64 0]) := by
  have h := indirect0 hE hT 1 0 ob0 (by decide +kernel) (by decide +kernel) (by decide) (by decide) (by decide +kernel) (by decide +kernel)
  have e1 : Lib.itoa 1 = [49] := by unfold Lib.itoa; rw [if_neg (by decide)]; exact dec1
  have e0 : Lib.itoa 0 = [48] := by unfold Lib.itoa; rw [if_neg (by decide)]; exact dec0
  rw [e1, e0, show txt ob0 = [110, 117, 108, 108] by decide +kernel] at h
  simp only [ob0, obC, obL, obD] at h
  exact h.pub fun n => ⟨.same _ rfl, .same _ rfl, Pub.aggL ⟨.same _ rfl, .same _ rfl, .same _ rfl, .same _ rfl, .nil _ _, .nil _ _, trivial⟩ (by simp [sc]), trivial⟩

theorem sane9 : PCalls E 23 [.agg [.int .i64 9, .int .i64 0, .int .i64 0, .str [], nilS, nilS]] (· = .int .i64 1) := by
  have h := sane60 hE ob9 (by decide +kernel)
  rw [show saneL ob9 0 = 1 by decide +kernel] at h
  simp only [ob9, obC, obL, obD] at h
  exact h.pub fun n => ⟨Pub.aggL ⟨.same _ rfl, .same _ rfl, .same _ rfl, .same _ rfl, .nil _ _, .nil _ _, trivial⟩ (by simp [sc]), trivial⟩

theorem awake5 (hT : TabE E) : PCalls E 17 [] (· = .bool true) := by
  refine p17 hE fun l => ?_
  conv => whnf
  repeat' (first
    | (refine And.intro W1 ?_; conv => whnf)
    | (refine brD (fun _ => ?_) (fun _ => ?_) <;> first | (exfalso; omega) | (conv => whnf))
    | (refine brB (fun _ => ?_) (fun _ => ?_) <;> conv => whnf)
    | ((first | refine CallG.e (object1 hE hT) ?_ | refine CallD.e (object1 hE hT) ?_ | refine CallQ.e (object1 hE hT) ?_); conv => whnf)
    | ((first | refine CallG.e (indirect1 hE hT) ?_ | refine CallD.e (indirect1 hE hT) ?_ | refine CallQ.e (indirect1 hE hT) ?_); conv => whnf)
    | ((first | refine CallG.e (sane9 hE) ?_ | refine CallD.e (sane9 hE) ?_ | refine CallQ.e (sane9 hE) ?_); conv => whnf))
  all_goals first | contradiction | exact RetG.q ⟨rfl, rfl, rfl⟩
end Ink.D
