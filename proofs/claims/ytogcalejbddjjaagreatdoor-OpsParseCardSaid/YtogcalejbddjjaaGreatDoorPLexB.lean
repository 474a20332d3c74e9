import Derived.Test.YtogcalejbddjjaaGreatDoorPLexA
import Derived.Test.YtogcalejbddjjaaGreatDoorInkBB
set_option linter.all false
namespace Ink.D
open Go Go.Proofs
set_option maxRecDepth 100000
variable {E : Env} (hE : E.P = Tryz.prog)

include hE
end Ink.D

namespace Ink.D
open Go Go.Proofs
set_option maxRecDepth 100000
variable {E : Env} (hE : E.P = Tryz.prog)

include hE
end Ink.D

namespace Ink.D
open Go Go.Proofs
set_option maxRecDepth 100000
variable {E : Env} (hE : E.P = Tryz.prog)

def digsL : List UInt8 → Except Int (List UInt8 × Nat)
  | [] => .error 4
  | c :: r => match hexN c with
    | some v => (digsL r).map fun x => (v :: x.1, 1 + x.2)
    | none => if c = 62 then .ok ([], 1) else if isWhite c then (digsL r).map fun x => (x.1, 1 + x.2) else .error 3

def pairL : List UInt8 → List UInt8
  | a :: b :: r => (a <<< 4 ||| b) :: pairL r
  | [a] => [a <<< 4]
  | [] => []

def digAVs (k : Nat) (o : Except Int (List UInt8 × Nat)) : AV := match o with
  | .ok x => tkE (tk 3 0 (pairL x.1) false k (k + 1 + x.2 : Nat)) 0
  | .error e => tkE (tk 0 0 [] false 0 0) e

include hE
theorem digits (s : List UInt8) (k : Nat) (hs : s.length < 1000000) (hk : k < s.length) : PCalls E 204 [.str s, tk 0 0 [] false k 0] (· = digAVs k (digsL (s.drop (k + 1)))) := by
  refine p204 hE fun l => ?_
  conv => whnf
  refine ⟨by unfold inI64; omega, ?_⟩
  conv => whnf
  refine LoopG.w (fun x : Nat × List UInt8 => k < x.1 ∧ x.1 ≤ s.length ∧ x.2.length ≤ x.1 ∧ digsL (s.drop (k + 1)) = (digsL (s.drop x.1)).map fun y => (x.2 ++ y.1, x.1 - (k + 1) + y.2)) 77
    (fun x => [(0, .str s), (3, .ptr 1 0 0), (4, .ptr 2 0 0), (6, .own 3 0 0 x.2.length 1), (7, .int .i64 x.1)])
    (fun x => [⟨0, true, .frame l⟩, ⟨0, true, .cells 138 (tkC 0 0 [] false k 0)⟩, ⟨0, true, .cells 138 (tkC 0 0 [] false 0 0)⟩, ⟨0, true, .cells 5 (bytesAV x.2)⟩]) (fun x => s.length - x.1) (k + 1, []) ⟨by simp, by simp; omega, by simp, ?_⟩ ((Wk.ghost 6 1 5 rfl).trans (Wk.slots rfl ⟨rfl, rfl, rfl, rfl, rfl⟩)) ?_
  · cases digsL (s.drop (k + 1)) <;> simp [Except.map]
  rintro ⟨at_, ds⟩ ⟨h1, h2, h3, h4⟩
  simp only at h1 h2 h3 h4
  dsimp only
  conv => whnf
  refine ⟨by omega, ?_⟩
  conv => whnf
  split
  · rename_i hlt
    have hlt : at_ < s.length := by simpa using hlt
    have hg := getD_at s at_ hlt
    have hd := List.drop_eq_getElem_cons hlt
    rw [hd] at h4
    have hnx : ∀ (b : List UInt8), digsL (s[at_] :: s.drop (at_ + 1)) = (digsL (s.drop (at_ + 1))).map (fun x => (b ++ x.1, 1 + x.2)) → b.length ≤ 1 →
        ((k < at_ + 1 ∧ at_ + 1 ≤ s.length ∧ (ds ++ b).length ≤ at_ + 1 ∧ digsL (s.drop (k + 1)) = (digsL (s.drop (at_ + 1))).map fun y => ((ds ++ b) ++ y.1, at_ + 1 - (k + 1) + y.2)) ∧ s.length - (at_ + 1) < s.length - at_) := by
      intro b he hb
      refine ⟨⟨by omega, by omega, by simp; omega, ?_⟩, by omega⟩
      rw [h4, he]
      cases digsL (s.drop (at_ + 1)) with
      | error e => rfl
      | ok y =>
        simp only [Except.map, List.append_assoc]
        congr 2
        omega
    generalize hc : s[at_] = c at *
    conv => whnf
    refine ⟨by omega, ?_⟩
    rw [hg]
    conv => whnf
    refine CallG.e (digit hE c) ?_
    cases hx : hexN c with
    | some v =>
      conv => whnf
      refine ⟨⟨rfl, rfl, rfl, by simp [bytesAV_length], by decide, by simp; omega⟩, ?_⟩
      conv => whnf
      refine ⟨by unfold inI64; omega, ?_⟩
      conv => whnf
      refine ⟨(at_ + 1, ds ++ [v]), hnx [v] (by simp [digsL, hx]) (by simp), ?_⟩
      refine Wk.ver 3 1 (k := .cells 5 (bytesAV (ds ++ [v]))) rfl ?_ rfl ?_ rfl ?_
      · refine congrArg (fun z => some (Blk.mk 1 true (.cells 5 z))) ?_
        rw [List.drop_zero, Nat.mul_one, bytesAV_take, bytesAV_append]
        rfl
      · refine ⟨⟨_, rfl, .inl ⟨rfl, rfl⟩⟩, ⟨_, rfl, .inl ⟨rfl, rfl⟩⟩, ⟨_, rfl, .inl ⟨rfl, rfl⟩⟩, ⟨_, rfl, .inr ⟨0, (ds ++ [v]).length, 1, ?_, rfl⟩⟩, ⟨_, rfl, .inl ⟨rfl, rfl⟩⟩, trivial⟩
        rw [List.length_append]; rfl
      · simp [nhH, nhB, nhL_bytes, nhL, nh, tkC]
    | none =>
      conv => whnf
      refine ⟨by omega, ?_⟩
      rw [hg]
      conv => whnf
      split
      · rename_i h62
        have h62 : c = 62 := by simpa [zEq] using h62
        conv => whnf
        refine ⟨⟨rfl, rfl, rfl, by simp [bytesAV_length], by decide, by simp; omega⟩, ?_⟩
        conv => whnf
        refine ⟨by unfold inI64; omega, ?_⟩
        conv => whnf
        refine LoopG.w (fun x : Nat × List UInt8 => x.1 % 2 = 1 ∧ x.1 ≤ ds.length + 2 ∧ x.2.length ≤ x.1 ∧ pairL ds = x.2 ++ pairL (ds.drop (x.1 - 1))) 77
          (fun x => [(0, .str s), (3, .ptr 1 0 0), (4, .ptr 2 0 0), (6, .own 3 0 0 (ds.length + 1) 1), (10, .int .i64 x.1)])
          (fun x => [⟨0, true, .frame l⟩, ⟨0, true, .cells 138 (tkC 3 0 x.2 false k (at_ + 1))⟩, ⟨0, true, .cells 138 (tkC 0 0 [] false 0 0)⟩, ⟨0, true, .cells 5 (bytesAV (ds ++ [0]))⟩]) (fun x => ds.length + 2 - x.1) (1, []) ⟨by simp, by simp, by simp, by simp⟩ ?_ ?_
        · refine Wk.ver 3 1 (k := .cells 5 (bytesAV (ds ++ [0]))) rfl ?_ rfl ?_ rfl ?_
          · refine congrArg (fun z => some (Blk.mk 1 true (.cells 5 z))) ?_
            rw [List.drop_zero, Nat.mul_one, bytesAV_take, bytesAV_append]
            rfl
          · exact ⟨⟨_, rfl, .inl ⟨rfl, rfl⟩⟩, ⟨_, rfl, .inl ⟨rfl, rfl⟩⟩, ⟨_, rfl, .inl ⟨rfl, rfl⟩⟩, ⟨_, rfl, .inr ⟨0, ds.length + 1, 1, rfl, rfl⟩⟩, ⟨_, rfl, .inl ⟨rfl, rfl⟩⟩, trivial⟩
          · simp [nhH, nhB, nhL_bytes, nhL, nh, tkC]
        rintro ⟨j, bs⟩ ⟨g1, g2, g3, g4⟩
        simp only at g1 g2 g3 g4
        dsimp only
        conv => whnf
        refine ⟨by omega, ?_⟩
        conv => whnf
        split
        · rename_i hj
          have hj : j < ds.length + 1 := by simp at hj; omega
          conv => whnf
          refine ⟨by unfold inI64; omega, ?_⟩
          conv => whnf
          refine ⟨⟨by omega, by omega, rfl⟩, ?_⟩
          conv => whnf
          rw [load_u8 (l := ds ++ [0]) (t := 5) (i := 3) (ver := 0) (off := 0 + ((j : Int) - 1).toNat * 1) (j - 1) (by simp; omega) ?_ ?_ (by omega)]
          rotate_left
          · rfl
          · rfl
          conv => whnf
          refine ⟨by decide, ?_⟩
          rw [shl4_u8]
          conv => whnf
          refine ⟨⟨by omega, by omega, rfl⟩, ?_⟩
          conv => whnf
          rw [load_u8 (l := ds ++ [0]) (t := 5) (i := 3) (ver := 0) (off := 0 + (j : Int).toNat * 1) j (by simp; omega) ?_ ?_ (by omega)]
          rotate_left
          · rfl
          · rfl
          conv => whnf
          rw [or_u8]
          conv => whnf
          have hpair : pairL (ds.drop (j - 1)) = ((ds ++ [0])[j - 1]'(by simp; omega) <<< 4 ||| (ds ++ [0])[j]'(by simp; omega)) :: pairL (ds.drop (j + 1)) := by
            have hd1 := List.drop_eq_getElem_cons (show j - 1 < ds.length by omega)
            rw [hd1, List.getElem_append_left (by omega)]
            have e1 : j - 1 + 1 = j := by omega
            rw [e1]
            by_cases hjl : j < ds.length
            · have hd2 := List.drop_eq_getElem_cons hjl
              rw [hd2, List.getElem_append_left hjl]
              rfl
            · have : j = ds.length := by omega
              subst this
              rw [List.drop_eq_nil_of_le (Nat.le_refl _), List.drop_eq_nil_of_le (by omega)]
              simp [pairL]
          generalize ((ds ++ [0])[j - 1]'(by simp; omega) <<< 4 ||| (ds ++ [0])[j]'(by simp; omega)) = v at hpair ⊢
          have ev : [[AV.int .u8 (v.toNat : Int)]].flatten = bytesAV [v] := rfl
          rw [ev, unAV_bytes]
          refine ⟨⟨rfl, rfl⟩, ?_⟩
          conv => whnf
          refine ⟨by simp; omega, ?_⟩
          conv => whnf
          refine ⟨by unfold inI64; omega, ?_⟩
          conv => whnf
          refine ⟨(j + 2, bs ++ [v]), ⟨⟨by simp; omega, by simp; omega, by simp; omega, ?_⟩, by simp; omega⟩, Wk.slots rfl ⟨rfl, rfl, rfl, rfl, rfl⟩⟩
          have : j + 2 - 1 = j + 1 := by omega
          simp only [this]
          rw [g4, hpair]
          simp
        · rename_i hj
          have hj : ds.length + 1 ≤ j := by simp at hj; omega
          conv => whnf
          refine RetG.drop rfl rfl rfl ⟨rfl, ?_, rfl⟩
          rw [h4]
          have hp : pairL ds = bs := by rw [g4, List.drop_eq_nil_of_le (by omega)]; simp [pairL]
          have hdg : digsL (c :: s.drop (at_ + 1)) = .ok ([], 1) := by rw [digsL, hx]; simp [h62]
          rw [hdg]
          simp only [Except.map, digAVs]
          rw [List.append_nil, hp]
          have : ((at_ : Int) + 1) = ((k + 1 + (at_ - (k + 1) + 1) : Nat) : Int) := by omega
          show AV.tup [tk 3 0 bs false k ((at_ : Int) + 1), _] = _
          rw [this]
          rfl
      · rename_i h62
        have h62 : c ≠ 62 := by simpa [zEq] using h62
        conv => whnf
        refine ⟨by omega, ?_⟩
        rw [hg]
        conv => whnf
        refine CallG.e (white hE c) ?_
        cases hw : isWhite c with
        | true =>
          conv => whnf
          refine ⟨by unfold inI64; omega, ?_⟩
          conv => whnf
          have hq := hnx [] (by simp [digsL, hx, h62, hw]) (by simp)
          rw [List.append_nil] at hq
          exact ⟨(at_ + 1, ds), hq, Wk.slots rfl ⟨rfl, rfl, rfl, rfl, rfl⟩⟩
        | false =>
          conv => whnf
          refine RetG.drop rfl rfl rfl ⟨rfl, ?_, rfl⟩
          rw [h4]
          simp [digsL, hx, h62, hw, Except.map]
          rfl
  · rename_i hlt
    have hlt : s.length ≤ at_ := by simpa using hlt
    conv => whnf
    refine RetG.drop rfl rfl rfl ⟨rfl, ?_, rfl⟩
    rw [h4, List.drop_eq_nil_of_le hlt]
    rfl
end Ink.D

namespace Ink.D
open Go Go.Proofs
set_option maxRecDepth 100000
variable {E : Env} (hE : E.P = Tryz.prog)

include hE
theorem asciiHas (T : List AV) (hT : hbL 0 T = true) (p : UInt8 → Bool) (hp : ∀ c : UInt8, T[c.toNat]? = some (.bool (p c))) (c : UInt8) :
    BCalls E 249 [.ptr 1 0 0, .int .u8 (c.toNat : Int)] [.cells 241 T] fun r ks => r = .bool (p c) ∧ ks = [.cells 241 T] := by
  refine b249 hE fun l => ?_
  have hc : c.toNat < 256 := c.toNat_lt
  have hf : ([BK.cells 241 T].all bkFree) = true := by simp [bkFree, hbB, hT]
  conv => whnf
  repeat' (first
    | (refine And.intro (by first | omega | decide | (unfold inI64; omega) | (refine ⟨?_, ?_⟩ <;> omega)) ?_; conv => whnf)
    | (refine brD (fun _ => ?_) (fun _ => ?_) <;> conv => whnf)
    | (refine brB (fun _ => ?_) (fun _ => ?_) <;> conv => whnf))
  refine stepOk (load_at rfl rfl (v := .bool (p c)) ?_) ?_
  · rw [← hp c]; congr 1; omega
  conv => whnf
  repeat' (first
    | (refine And.intro (by first | omega | decide | (unfold inI64; omega) | (refine ⟨?_, ?_⟩ <;> omega)) ?_; conv => whnf)
    | (refine brD (fun _ => ?_) (fun _ => ?_) <;> conv => whnf)
    | (refine brB (fun _ => ?_) (fun _ => ?_) <;> conv => whnf))
  exact RetG.q ⟨rfl, [.cells 241 T], rfl, rfl, hf, rfl, rfl⟩

theorem trimL (T : List AV) (hT : hbL 0 T = true) (p : UInt8 → Bool) (hp : ∀ c : UInt8, T[c.toNat]? = some (.bool (p c))) (s : List UInt8) (hs : s.length < big) :
    BCalls E 283 [.str s, .ptr 1 0 0] [.cells 241 T] fun r ks => r = .str (s.dropWhile p) ∧ ks = [.cells 241 T] := by
  unfold big at hs
  refine b283 hE fun l => ?_
  have hf : ([BK.cells 241 T].all bkFree) = true := by simp [bkFree, hbB, hT]
  conv => whnf
  repeat' (first
    | (refine And.intro (by first | omega | decide | (unfold inI64; omega) | (refine ⟨?_, ?_⟩ <;> omega)) ?_; conv => whnf)
    | (refine brD (fun _ => ?_) (fun _ => ?_) <;> conv => whnf)
    | (refine brB (fun _ => ?_) (fun _ => ?_) <;> conv => whnf))
  refine LoopG.s (fun x : List UInt8 => x.length ≤ s.length ∧ x.dropWhile p = s.dropWhile p) 16 (fun x => [(0, .str x), (1, .ptr 1 0 0), (4, .str [])]) (fun x => frmB l [.cells 241 T]) (fun x => x.length) s ⟨Nat.le_refl _, rfl⟩ rfl ⟨rfl, rfl, rfl⟩ rfl ?_
  rintro x ⟨h1, h2⟩
  conv => whnf
  repeat' (first
    | (refine And.intro (by first | omega | decide | (unfold inI64; omega) | (refine ⟨?_, ?_⟩ <;> omega)) ?_; conv => whnf)
    | (refine brD (fun _ => ?_) (fun _ => ?_) <;> conv => whnf)
    | (refine brB (fun _ => ?_) (fun _ => ?_) <;> conv => whnf)
    | (refine CallG.b [(1, 0)] (asciiHas hE T hT p hp _) ⟨rfl, trivial⟩ ⟨.ptr 0 1 0 0 rfl, .same _ rfl, trivial⟩ (fun r ks' hq _ _ => ?_) hf; obtain ⟨rfl, rfl⟩ := hq; conv => whnf))
  · rename_i h3 _ _ h4
    refine RetG.q ⟨rfl, [.cells 241 T], rfl, rfl, hf, ?_, rfl⟩
    match x, h3, h4, h2 with
    | c :: r, _, h4, h2 =>
      have h4 : p c = false := by simpa using h4
      rw [← h2, List.dropWhile_cons_of_neg (by simp [h4])]
  · rename_i h3 _ _ h4
    match x, h3, h4, h2, h1 with
    | c :: r, _, h4, h2, h1 =>
      have h4 : p c = true := by simpa using h4
      rw [List.dropWhile_cons_of_pos h4] at h2
      simp only [List.length_cons] at h1
      exact ⟨r, ⟨⟨by omega, h2⟩, by simp⟩, Wk.slots rfl ⟨rfl, rfl, rfl⟩⟩
  · rename_i h3
    refine RetG.q ⟨rfl, [.cells 241 T], rfl, rfl, hf, ?_, rfl⟩
    have : x = [] := List.eq_nil_of_length_eq_zero (by omega)
    rw [← h2, this]; rfl

theorem trimR (T : List AV) (hT : hbL 0 T = true) (p : UInt8 → Bool) (hp : ∀ c : UInt8, T[c.toNat]? = some (.bool (p c))) (s : List UInt8) (hs : s.length < big) :
    BCalls E 219 [.str s, .ptr 1 0 0] [.cells 241 T] fun r ks => r = .str (s.reverse.dropWhile p).reverse ∧ ks = [.cells 241 T] := by
  unfold big at hs
  refine b219 hE fun l => ?_
  have hf : ([BK.cells 241 T].all bkFree) = true := by simp [bkFree, hbB, hT]
  conv => whnf
  repeat' (first
    | (refine And.intro (by first | omega | decide | (unfold inI64; omega) | (refine ⟨?_, ?_⟩ <;> omega)) ?_; conv => whnf)
    | (refine brD (fun _ => ?_) (fun _ => ?_) <;> conv => whnf)
    | (refine brB (fun _ => ?_) (fun _ => ?_) <;> conv => whnf))
  refine LoopG.s (fun x : List UInt8 => x.length ≤ s.length ∧ x.dropWhile p = s.reverse.dropWhile p) 22 (fun x => [(0, .str x.reverse), (1, .ptr 1 0 0), (4, .str [])]) (fun x => frmB l [.cells 241 T]) (fun x => x.length) s.reverse ⟨by simp, rfl⟩ rfl ⟨by simp [getK], rfl, rfl⟩ rfl ?_
  rintro x ⟨h1, h2⟩
  have hl : x.reverse.length = x.length := by simp
  conv => whnf
  repeat' (first
    | (refine And.intro (by first | omega | decide | (unfold inI64; omega) | (refine ⟨?_, ?_⟩ <;> omega)) ?_; conv => whnf)
    | (refine brD (fun _ => ?_) (fun _ => ?_) <;> conv => whnf)
    | (refine brB (fun _ => ?_) (fun _ => ?_) <;> conv => whnf)
    | (refine CallG.b [(1, 0)] (asciiHas hE T hT p hp _) ⟨rfl, trivial⟩ ⟨.ptr 0 1 0 0 rfl, .same _ rfl, trivial⟩ (fun r ks' hq _ _ => ?_) hf; obtain ⟨rfl, rfl⟩ := hq; conv => whnf))
  · rename_i h3 _ _ h4
    refine RetG.q ⟨rfl, [.cells 241 T], rfl, rfl, hf, ?_, rfl⟩
    match x, h3, h4, h2 with
    | c :: r, _, h4, h2 =>
      have e : (((c :: r).reverse.length : Int) - 1).toNat = r.length := by simp
      rw [e] at h4
      have h4 : p c = false := by simpa using h4
      rw [← h2, List.dropWhile_cons_of_neg (by simp [h4])]
  · rename_i h3 _ _ h4
    match x, h3, h4, h2, h1 with
    | c :: r, _, h4, h2, h1 =>
      have e : (((c :: r).reverse.length : Int) - 1).toNat = r.length := by simp
      rw [e] at h4
      have h4 : p c = true := by simpa using h4
      rw [List.dropWhile_cons_of_pos h4] at h2
      simp only [List.length_cons] at h1
      refine ⟨r, ⟨⟨by omega, h2⟩, by simp⟩, Wk.slots rfl ⟨?_, rfl, rfl⟩⟩
      show some (AV.str (((c :: r).reverse).take _)) = _
      rw [e]; simp
  · rename_i h3
    refine RetG.q ⟨rfl, [.cells 241 T], rfl, rfl, hf, ?_, rfl⟩
    have : x = [] := List.eq_nil_of_length_eq_zero (by omega)
    rw [← h2, this]; rfl

omit hE in
def tab10 : List AV := (List.range 256).map fun i => .bool (decide (48 ≤ i) && decide (i ≤ 57))
def tabK (k : Nat) : List AV := (List.range 256).map fun i => .bool (decide (48 ≤ i) && decide (i < 48 + k))
abbrev ten : List UInt8 := [48, 49, 50, 51, 52, 53, 54, 55, 56, 57]

theorem asciiTab : PCalls E 218 [.str ten] (· = .tup [.agg tab10, .bool true]) := by
  refine p218 hE fun l => ?_
  conv => whnf
  repeat' (first
    | (refine And.intro (by first | omega | decide | (unfold inI64; omega) | (refine ⟨?_, ?_⟩ <;> omega)) ?_; conv => whnf)
    | (refine brD (fun _ => ?_) (fun _ => ?_) <;> conv => whnf)
    | (refine brB (fun _ => ?_) (fun _ => ?_) <;> conv => whnf))
  refine LoopG.s (fun x : Nat => x ≤ 10) 21 (fun x => [(0, .str ten), (2, .ptr 1 0 0), (3, .bool false), (4, .int .i64 x)]) (fun x => [⟨0, true, .frame l⟩, ⟨0, true, .cells 241 (tabK x)⟩]) (fun x => 10 - x) 0 (by omega) rfl ⟨rfl, rfl, rfl, rfl⟩ (by rfl) ?_
  rintro x h1
  have hx : x = 0 ∨ x = 1 ∨ x = 2 ∨ x = 3 ∨ x = 4 ∨ x = 5 ∨ x = 6 ∨ x = 7 ∨ x = 8 ∨ x = 9 ∨ x = 10 := by omega
  rcases hx with rfl | rfl | rfl | rfl | rfl | rfl | rfl | rfl | rfl | rfl | rfl
  ·
    conv => whnf
    repeat' (first
      | (refine And.intro (by first | omega | decide | (unfold inI64; omega) | (refine ⟨?_, ?_⟩ <;> omega)) ?_; conv => whnf)
      | (refine brD (fun _ => ?_) (fun _ => ?_) <;> conv => whnf)
      | (refine brB (fun _ => ?_) (fun _ => ?_) <;> conv => whnf))
    exact ⟨1, ⟨by omega, by omega⟩, Wk.slots rfl ⟨rfl, rfl, rfl, rfl⟩⟩
  ·
    conv => whnf
    repeat' (first
      | (refine And.intro (by first | omega | decide | (unfold inI64; omega) | (refine ⟨?_, ?_⟩ <;> omega)) ?_; conv => whnf)
      | (refine brD (fun _ => ?_) (fun _ => ?_) <;> conv => whnf)
      | (refine brB (fun _ => ?_) (fun _ => ?_) <;> conv => whnf))
    exact ⟨2, ⟨by omega, by omega⟩, Wk.slots rfl ⟨rfl, rfl, rfl, rfl⟩⟩
  ·
    conv => whnf
    repeat' (first
      | (refine And.intro (by first | omega | decide | (unfold inI64; omega) | (refine ⟨?_, ?_⟩ <;> omega)) ?_; conv => whnf)
      | (refine brD (fun _ => ?_) (fun _ => ?_) <;> conv => whnf)
      | (refine brB (fun _ => ?_) (fun _ => ?_) <;> conv => whnf))
    exact ⟨3, ⟨by omega, by omega⟩, Wk.slots rfl ⟨rfl, rfl, rfl, rfl⟩⟩
  ·
    conv => whnf
    repeat' (first
      | (refine And.intro (by first | omega | decide | (unfold inI64; omega) | (refine ⟨?_, ?_⟩ <;> omega)) ?_; conv => whnf)
      | (refine brD (fun _ => ?_) (fun _ => ?_) <;> conv => whnf)
      | (refine brB (fun _ => ?_) (fun _ => ?_) <;> conv => whnf))
    exact ⟨4, ⟨by omega, by omega⟩, Wk.slots rfl ⟨rfl, rfl, rfl, rfl⟩⟩
  ·
    conv => whnf
    repeat' (first
      | (refine And.intro (by first | omega | decide | (unfold inI64; omega) | (refine ⟨?_, ?_⟩ <;> omega)) ?_; conv => whnf)
      | (refine brD (fun _ => ?_) (fun _ => ?_) <;> conv => whnf)
      | (refine brB (fun _ => ?_) (fun _ => ?_) <;> conv => whnf))
    exact ⟨5, ⟨by omega, by omega⟩, Wk.slots rfl ⟨rfl, rfl, rfl, rfl⟩⟩
  ·
    conv => whnf
    repeat' (first
      | (refine And.intro (by first | omega | decide | (unfold inI64; omega) | (refine ⟨?_, ?_⟩ <;> omega)) ?_; conv => whnf)
      | (refine brD (fun _ => ?_) (fun _ => ?_) <;> conv => whnf)
      | (refine brB (fun _ => ?_) (fun _ => ?_) <;> conv => whnf))
    exact ⟨6, ⟨by omega, by omega⟩, Wk.slots rfl ⟨rfl, rfl, rfl, rfl⟩⟩
  ·
    conv => whnf
    repeat' (first
      | (refine And.intro (by first | omega | decide | (unfold inI64; omega) | (refine ⟨?_, ?_⟩ <;> omega)) ?_; conv => whnf)
      | (refine brD (fun _ => ?_) (fun _ => ?_) <;> conv => whnf)
      | (refine brB (fun _ => ?_) (fun _ => ?_) <;> conv => whnf))
    exact ⟨7, ⟨by omega, by omega⟩, Wk.slots rfl ⟨rfl, rfl, rfl, rfl⟩⟩
  ·
    conv => whnf
    repeat' (first
      | (refine And.intro (by first | omega | decide | (unfold inI64; omega) | (refine ⟨?_, ?_⟩ <;> omega)) ?_; conv => whnf)
      | (refine brD (fun _ => ?_) (fun _ => ?_) <;> conv => whnf)
      | (refine brB (fun _ => ?_) (fun _ => ?_) <;> conv => whnf))
    exact ⟨8, ⟨by omega, by omega⟩, Wk.slots rfl ⟨rfl, rfl, rfl, rfl⟩⟩
  ·
    conv => whnf
    repeat' (first
      | (refine And.intro (by first | omega | decide | (unfold inI64; omega) | (refine ⟨?_, ?_⟩ <;> omega)) ?_; conv => whnf)
      | (refine brD (fun _ => ?_) (fun _ => ?_) <;> conv => whnf)
      | (refine brB (fun _ => ?_) (fun _ => ?_) <;> conv => whnf))
    exact ⟨9, ⟨by omega, by omega⟩, Wk.slots rfl ⟨rfl, rfl, rfl, rfl⟩⟩
  ·
    conv => whnf
    repeat' (first
      | (refine And.intro (by first | omega | decide | (unfold inI64; omega) | (refine ⟨?_, ?_⟩ <;> omega)) ?_; conv => whnf)
      | (refine brD (fun _ => ?_) (fun _ => ?_) <;> conv => whnf)
      | (refine brB (fun _ => ?_) (fun _ => ?_) <;> conv => whnf))
    exact ⟨10, ⟨by omega, by omega⟩, Wk.slots rfl ⟨rfl, rfl, rfl, rfl⟩⟩
  ·
    conv => whnf
    repeat' (first
      | (refine And.intro (by first | omega | decide | (unfold inI64; omega) | (refine ⟨?_, ?_⟩ <;> omega)) ?_; conv => whnf)
      | (refine brD (fun _ => ?_) (fun _ => ?_) <;> conv => whnf)
      | (refine brB (fun _ => ?_) (fun _ => ?_) <;> conv => whnf))
    exact RetG.drop rfl rfl rfl ⟨rfl, rfl, rfl⟩

omit hE in
def isDig (c : UInt8) : Bool := decide (48 ≤ c.toNat) && decide (c.toNat ≤ 57)

omit hE in
theorem tab10_at (c : UInt8) : tab10[c.toNat]? = some (.bool (isDig c)) := by
  have hc := c.toNat_lt
  simp only [tab10, List.getElem?_map]
  rw [List.getElem?_range hc]
  rfl

omit hE in
theorem tab10_hb : hbL 0 tab10 = true := by
  rw [hbL_iff]
  intro x hx
  obtain ⟨i, _, rfl⟩ := List.mem_map.mp hx
  rfl

theorem trim10 (s : List UInt8) (hs : s.length < big) : PCalls E 275 [.str s, .str ten] (· = .str (if s = [] then [] else ((s.reverse.dropWhile isDig).reverse.dropWhile isDig))) := by
  have hs' := hs
  unfold big at hs
  refine p275 hE fun l => ?_
  have hr : (s.reverse.dropWhile isDig).reverse.length < big := by
    have := (List.dropWhile_sublist isDig (l := s.reverse)).length_le
    simp at this ⊢; omega
  conv => whnf
  repeat' (first
    | (refine And.intro (by first | omega | decide | (unfold inI64; omega) | (refine ⟨?_, ?_⟩ <;> omega)) ?_; conv => whnf)
    | (refine brD (fun _ => ?_) (fun _ => ?_) <;> conv => whnf)
    | (refine brB (fun _ => ?_) (fun _ => ?_) <;> conv => whnf)
    | (refine CallG.e (asciiTab hE) ?_; conv => whnf)
    | (refine CallG.b [(1, 0)] (trimR hE tab10 tab10_hb isDig tab10_at s hs') ⟨rfl, trivial⟩ ⟨.same _ rfl, .ptr 0 1 0 0 rfl, trivial⟩ (fun r ks' hq _ _ => ?_) rfl; obtain ⟨rfl, rfl⟩ := hq; conv => whnf)
    | (refine CallG.b [(1, 0)] (trimL hE tab10 tab10_hb isDig tab10_at _ hr) ⟨rfl, trivial⟩ ⟨.same _ rfl, .ptr 0 1 0 0 rfl, trivial⟩ (fun r ks' hq _ _ => ?_) rfl; obtain ⟨rfl, rfl⟩ := hq; conv => whnf))
  all_goals exact RetG.drop rfl rfl rfl ⟨rfl, by simp_all, rfl⟩
end Ink.D

namespace Ink.D
open Go Go.Proofs
set_option maxRecDepth 100000
variable {E : Env} (hE : E.P = Tryz.prog)

def mayF (f : Int) : Bool := decide (-2147483648 ≤ f) && decide (f ≤ 2147483648)
def told (f : Int) : Int × Int := if mayF f then (f, 0) else (0, 2)
def fxAV (x : Int × Int) : AV := .tup [.int .i64 x.1, .int .i64 x.2]

theorem getD_map1 {α : Type} (fs : List α) (g : α → List AV) (k : Nat) (h : k < fs.length) : (fs.map g).getD (k : Int).toNat [] = g fs[k] := by
  simp [h]

theorem hbLL_map1 (fs : List Int) : hbLL 0 (fs.map fun f => [.int .i64 f]) = true := by
  rw [hbLL_iff]
  intro x hx y hy
  obtain ⟨f, _, rfl⟩ := List.mem_map.mp hx
  simp at hy; subst hy; rfl

include hE
theorem sane (fs : List Int) (hs : fs.length < big) : PCalls E 117 [.imm 1 (fs.map fun f => [.int .i64 f])] (· = .bool (fs.all mayF)) := by
  unfold big at hs
  have hl : (fs.map fun f => [AV.int .i64 f]).length = fs.length := by simp
  refine p117 hE (fun l => ?_) (by simp only [hbL, hb, hbLL_map1, Bool.and_true])
  conv => whnf
  repeat' (first
    | (refine And.intro ?_ ?_; (focus (first | omega | decide | (unfold inI64; omega) | (simp only [List.length_append, List.length_cons, List.length_nil] <;> omega) | (refine ⟨?_, ?_⟩ <;> omega) | (simp <;> omega))); conv => whnf)
    | (refine brD (fun _ => ?_) (fun _ => ?_) <;> conv => whnf)
    | (refine brB (fun _ => ?_) (fun _ => ?_) <;> conv => whnf))
  refine LoopG.s (fun x : Nat => x ≤ fs.length ∧ (fs.take x).all mayF = true) 18 (fun x => [(0, .imm 1 (fs.map fun f => [.int .i64 f])), (2, .bool false), (5, .imm 1 (fs.map fun f => [.int .i64 f])), (6, .int .i64 fs.length), (7, .int .i64 x)]) (fun _ => frm l) (fun x => fs.length - x) 0 ⟨by simp, by simp⟩ rfl ⟨rfl, rfl, rfl, by rw [← hl]; rfl, rfl⟩ rfl ?_
  rintro x ⟨h1, h2⟩
  conv => whnf
  repeat' (first
    | (refine And.intro ?_ ?_; (focus (first | omega | decide | (unfold inI64; omega) | (simp only [List.length_append, List.length_cons, List.length_nil] <;> omega) | (refine ⟨?_, ?_⟩ <;> omega) | (simp <;> omega))); conv => whnf)
    | (refine brD (fun _ => ?_) (fun _ => ?_) <;> conv => whnf)
    | (refine brB (fun _ => ?_) (fun _ => ?_) <;> conv => whnf))
  · rename_i h3
    rw [getD_map1 _ _ _ (by omega)]
    have hx : x < fs.length := by omega
    have hall : fs.all mayF = true → mayF fs[x] = true := fun h => List.all_eq_true.mp h _ (List.getElem_mem hx)
    have hn : mayF fs[x] = true → (fs.take (x + 1)).all mayF = true := fun h => by
      rw [List.take_succ_eq_append_getElem hx, List.all_append, h2]; simp [h]
    generalize fs[x] = f at *
    conv => whnf
    repeat' (first
      | (refine And.intro ?_ ?_; (focus (first | omega | decide | (unfold inI64; omega) | (simp only [List.length_append, List.length_cons, List.length_nil] <;> omega) | (refine ⟨?_, ?_⟩ <;> omega) | (simp <;> omega))); conv => whnf)
      | (refine brD (fun _ => ?_) (fun _ => ?_) <;> conv => whnf)
      | (refine brB (fun _ => ?_) (fun _ => ?_) <;> conv => whnf))
    · refine RetG.q ⟨rfl, ?_, rfl⟩
      cases hq : fs.all mayF with
      | false => rfl
      | true => have := hall hq; simp only [mayF, Bool.and_eq_true, decide_eq_true_eq] at this; omega
    · refine RetG.q ⟨rfl, ?_, rfl⟩
      cases hq : fs.all mayF with
      | false => rfl
      | true => have := hall hq; simp only [mayF, Bool.and_eq_true, decide_eq_true_eq] at this; omega
    · exact ⟨x + 1, ⟨⟨by omega, hn (by simp only [mayF, Bool.and_eq_true, decide_eq_true_eq]; omega)⟩, by omega⟩, Wk.slots rfl ⟨rfl, rfl, rfl, rfl, rfl⟩⟩
  · have : x = fs.length := by omega
    subst this
    refine RetG.q ⟨rfl, ?_, rfl⟩
    rw [List.take_length] at h2
    rw [h2]

theorem told_ (f : Int) : PCalls E 176 [.int .i64 f] (· = fxAV (told f)) := by
  refine p176 hE fun l => ?_
  conv => whnf
  repeat' (first
    | (refine And.intro ?_ ?_; (focus (first | omega | decide | (unfold inI64; omega) | (simp only [List.length_append, List.length_cons, List.length_nil] <;> omega) | (refine ⟨?_, ?_⟩ <;> omega) | (simp <;> omega))); conv => whnf)
    | (refine brD (fun _ => ?_) (fun _ => ?_) <;> conv => whnf)
    | (refine brB (fun _ => ?_) (fun _ => ?_) <;> conv => whnf)
    | (refine CallG.e (sane hE [f] (by unfold big; simp)) ?_; conv => whnf))
  all_goals
    rename_i h
    simp only [List.all_cons, List.all_nil, Bool.and_true] at h
    refine RetG.q ⟨rfl, ?_, rfl⟩
    simp_all [told]
    rfl

omit hE in
theorem dropWhile_all (p : UInt8 → Bool) (s : List UInt8) : s.dropWhile p = [] ↔ s.all p = true := by
  induction s with
  | nil => simp
  | cons c r ih =>
    by_cases h : p c = true
    · rw [List.dropWhile_cons_of_pos h]; simp only [ih, List.all_cons, h, Bool.true_and]
    · rw [List.dropWhile_cons_of_neg h]; simp [h]

omit hE in
theorem all_rdw (p : UInt8 → Bool) (s : List UInt8) : ((s.reverse.dropWhile p).reverse.dropWhile p = []) ↔ s.all p = true := by
  rw [dropWhile_all, List.all_reverse]
  constructor
  · intro h
    by_cases hn : s.reverse.dropWhile p = []
    · have := (dropWhile_all p s.reverse).mp hn
      rwa [List.all_reverse] at this
    · have h1 := List.head_dropWhile_not (p := p) hn
      have h2 := List.all_eq_true.mp h _ (List.head_mem hn)
      rw [h2] at h1; cases h1
  · intro h
    rw [← List.all_reverse] at h
    rw [(dropWhile_all p s.reverse).mpr h]; rfl

theorem fdigits (s : List UInt8) (hs : s.length < big) : PCalls E 263 [.str s] (· = .bool (s.all isDig)) := by
  refine p263 hE fun l => ?_
  conv => whnf
  repeat' (first
    | (refine And.intro ?_ ?_; (focus (first | omega | decide | (unfold inI64; omega) | (simp only [List.length_append, List.length_cons, List.length_nil] <;> omega) | (refine ⟨?_, ?_⟩ <;> omega) | (simp <;> omega))); conv => whnf)
    | (refine brD (fun _ => ?_) (fun _ => ?_) <;> conv => whnf)
    | (refine brB (fun _ => ?_) (fun _ => ?_) <;> conv => whnf)
    | (refine CallG.e (trim10 hE s hs) ?_; conv => whnf))
  refine RetG.q ⟨rfl, ?_, rfl⟩
  have := all_rdw isDig s
  by_cases h : s = []
  · simp [h]
  · simp only [h, if_false, this]
    cases s.all isDig <;> rfl

theorem cutPrefix139 (s t : List UInt8) (hs : s.length < big) (ht : t.length < big) : PCalls E 215 [.str s, .str t] (· = .tup [.str (if t.isPrefixOf s then s.drop t.length else s), .bool (t.isPrefixOf s)]) := by
  have hl : t.isPrefixOf s = true → t.length ≤ s.length := fun h => (List.isPrefixOf_iff_prefix.mp h).length_le
  have hs' := hs; have ht' := ht
  unfold big at hs ht
  refine p215 hE fun l => ?_
  conv => whnf
  repeat' (first
    | (refine And.intro ?_ ?_; (focus (first | omega | decide | (unfold inI64; omega) | (simp only [List.length_append, List.length_cons, List.length_nil] <;> omega) | (refine ⟨?_, ?_⟩ <;> omega) | (simp <;> omega))); conv => whnf)
    | (refine brD (fun _ => ?_) (fun _ => ?_) <;> conv => whnf)
    | (refine brB (fun _ => ?_) (fun _ => ?_) <;> conv => whnf)
    | (refine CallG.e (hasPrefix98 hE s t hs' ht') ?_; conv => whnf))
  all_goals
    rename_i h
    first | (refine And.intro (by have := hl (by simpa using h); omega) ?_; conv => whnf) | skip
    refine RetG.q ⟨rfl, ?_, rfl⟩
    simp_all

theorem cutPrefix (s t : List UInt8) (hs : s.length < big) (ht : t.length < big) : PCalls E 152 [.str s, .str t] (· = .tup [.str (if t.isPrefixOf s then s.drop t.length else s), .bool (t.isPrefixOf s)]) := by
  refine p152 hE fun l => ?_
  conv => whnf
  repeat' (first
    | (refine And.intro ?_ ?_; (focus (first | omega | decide | (unfold inI64; omega) | (simp only [List.length_append, List.length_cons, List.length_nil] <;> omega) | (refine ⟨?_, ?_⟩ <;> omega) | (simp <;> omega))); conv => whnf)
    | (refine brD (fun _ => ?_) (fun _ => ?_) <;> conv => whnf)
    | (refine brB (fun _ => ?_) (fun _ => ?_) <;> conv => whnf)
    | (refine CallG.e (cutPrefix139 hE s t hs ht) ?_; conv => whnf))
  exact RetG.q ⟨rfl, rfl, rfl⟩

theorem trimPrefix163 (s t : List UInt8) (hs : s.length < big) (ht : t.length < big) : PCalls E 281 [.str s, .str t] (· = .str (if t.isPrefixOf s then s.drop t.length else s)) := by
  have hl : t.isPrefixOf s = true → t.length ≤ s.length := fun h => (List.isPrefixOf_iff_prefix.mp h).length_le
  have hs' := hs; have ht' := ht
  unfold big at hs ht
  refine p281 hE fun l => ?_
  conv => whnf
  repeat' (first
    | (refine And.intro ?_ ?_; (focus (first | omega | decide | (unfold inI64; omega) | (simp only [List.length_append, List.length_cons, List.length_nil] <;> omega) | (refine ⟨?_, ?_⟩ <;> omega) | (simp <;> omega))); conv => whnf)
    | (refine brD (fun _ => ?_) (fun _ => ?_) <;> conv => whnf)
    | (refine brB (fun _ => ?_) (fun _ => ?_) <;> conv => whnf)
    | (refine CallG.e (hasPrefix98 hE s t hs' ht') ?_; conv => whnf))
  all_goals
    rename_i h
    first | (refine And.intro (by have := hl (by simpa using h); omega) ?_; conv => whnf) | skip
    refine RetG.q ⟨rfl, ?_, rfl⟩
    simp_all

theorem trimPrefix (s t : List UInt8) (hs : s.length < big) (ht : t.length < big) : PCalls E 274 [.str s, .str t] (· = .str (if t.isPrefixOf s then s.drop t.length else s)) := by
  refine p274 hE fun l => ?_
  conv => whnf
  repeat' (first
    | (refine And.intro ?_ ?_; (focus (first | omega | decide | (unfold inI64; omega) | (simp only [List.length_append, List.length_cons, List.length_nil] <;> omega) | (refine ⟨?_, ?_⟩ <;> omega) | (simp <;> omega))); conv => whnf)
    | (refine brD (fun _ => ?_) (fun _ => ?_) <;> conv => whnf)
    | (refine brB (fun _ => ?_) (fun _ => ?_) <;> conv => whnf)
    | (refine CallG.e (trimPrefix163 hE s t hs ht) ?_; conv => whnf))
  exact RetG.q ⟨rfl, rfl, rfl⟩

def unsL (s : List UInt8) : List UInt8 × Bool :=
  match s with
  | [] => ([], false)
  | c :: r => if c = 45 then (r, true) else if c = 43 then (r, false) else (c :: r, false)

theorem unsigned (s : List UInt8) (hs : s.length < big) : PCalls E 262 [.str s] (· = .tup [.str (unsL s).1, .bool (unsL s).2]) := by
  refine p262 hE fun l => ?_
  conv => whnf
  repeat' (first
    | (refine And.intro ?_ ?_; (focus (first | omega | decide | (unfold inI64; omega) | (simp only [List.length_append, List.length_cons, List.length_nil] <;> omega) | (refine ⟨?_, ?_⟩ <;> omega) | (simp <;> omega))); conv => whnf)
    | (refine brD (fun _ => ?_) (fun _ => ?_) <;> conv => whnf)
    | (refine brB (fun _ => ?_) (fun _ => ?_) <;> conv => whnf)
    | (refine CallG.e (cutPrefix hE s [45] hs (by decide)) ?_; conv => whnf)
    | (refine CallG.e (trimPrefix hE s [43] hs (by decide)) ?_; conv => whnf))
  all_goals
    rename_i h
    refine RetG.q ⟨rfl, ?_, rfl⟩
    match s, h with
    | [], h => simp_all [unsL, List.isPrefixOf]
    | c :: r, h =>
      have e1 : ∀ a : UInt8, List.isPrefixOf [a] (c :: r) = decide (c = a) := fun a => by
        by_cases hc : c = a
        · subst hc; simp [List.isPrefixOf]
        · have hc' : (a == c) = false := by simpa using Ne.symm hc
          simp [List.isPrefixOf, hc, hc']
      rw [e1] at h
      simp only [unsL]
      by_cases h1 : c = 45
      · subst h1; simp_all
      · have h1' : decide (c = 45) = false := by simp [h1]
        by_cases h2 : c = 43 <;> simp_all

omit hE in
def numL (l : List UInt8) : Nat := l.foldl (fun n c => n * 10 + (c.toNat - 48)) 0
omit hE in
theorem numL_snoc (l : List UInt8) (c : UInt8) : numL (l ++ [c]) = numL l * 10 + (c.toNat - 48) := by simp [numL]

omit hE in
theorem sub48 (c : UInt8) (h : isDig c = true) : IntKind.wrap .u8 ((c.toNat : Int) - 48) = ((c.toNat - 48 : Nat) : Int) ∧ c.toNat - 48 ≤ 9 := by
  simp only [isDig, Bool.and_eq_true, decide_eq_true_eq] at h
  have e : ((c.toNat : Int) - 48) = ((c.toNat - 48 : Nat) : Int) := by omega
  rw [e]
  exact ⟨wrap_u8 _ (by omega), by omega⟩

theorem read_ (s : List UInt8) (hs : s.length < big) (hd : s.all isDig = true) : PCalls E 264 [.str s] (· = .int .i64 (min (numL s) 1099511627776 : Nat)) := by
  unfold big at hs
  refine p264 hE fun l => ?_
  conv => whnf
  repeat' (first
    | (refine And.intro ?_ ?_; (focus (first | omega | decide | (unfold inI64; omega) | (simp only [List.length_append, List.length_cons, List.length_nil] <;> omega) | (refine ⟨?_, ?_⟩ <;> omega) | (simp <;> omega))); conv => whnf)
    | (refine brD (fun _ => ?_) (fun _ => ?_) <;> conv => whnf)
    | (refine brB (fun _ => ?_) (fun _ => ?_) <;> conv => whnf))
  refine LoopG.s (fun x : Nat => x ≤ s.length) 21 (fun x => [(0, .str s), (2, .int .i64 0), (3, .int .i64 (min (numL (s.take x)) 1099511627776 : Nat)), (6, .int .i64 s.length), (7, .int .i64 x)]) (fun _ => frm l) (fun x => s.length - x) 0 (by simp) rfl ⟨rfl, rfl, rfl, rfl, rfl⟩ rfl ?_
  intro x h1
  conv => whnf
  repeat' (first
    | (refine And.intro ?_ ?_; (focus (first | omega | decide | (unfold inI64; omega) | (simp only [List.length_append, List.length_cons, List.length_nil] <;> omega) | (refine ⟨?_, ?_⟩ <;> omega) | (simp <;> omega))); conv => whnf)
    | (refine brD (fun _ => ?_) (fun _ => ?_) <;> conv => whnf)
    | (refine brB (fun _ => ?_) (fun _ => ?_) <;> conv => whnf))
  · rename_i hx
    have hx : x < s.length := by omega
    have hg := getD_at s x hx
    obtain ⟨e1, e2⟩ := sub48 s[x] (List.all_eq_true.mp hd _ (List.getElem_mem hx))
    have e3 : numL (s.take (x + 1)) = numL (s.take x) * 10 + (s[x].toNat - 48) := by rw [List.take_succ_eq_append_getElem hx, numL_snoc]
    rw [hg, e1]
    conv => whnf
    repeat' (first
      | (refine And.intro ?_ ?_; (focus (first | omega | decide | (unfold inI64; omega) | (simp only [List.length_append, List.length_cons, List.length_nil] <;> omega) | (refine ⟨?_, ?_⟩ <;> omega) | (simp <;> omega))); conv => whnf)
      | (refine brD (fun _ => ?_) (fun _ => ?_) <;> conv => whnf)
      | (refine brB (fun _ => ?_) (fun _ => ?_) <;> conv => whnf))
    refine ⟨x + 1, ⟨by omega, by omega⟩, Wk.slots rfl ⟨rfl, rfl, ?_, rfl, rfl⟩⟩
    rw [e3]
    refine congrArg (fun z => some (AV.int .i64 z)) ?_
    simp only [Bool.false_eq_true, if_false]
    split <;> omega
  · have : x = s.length := by omega
    subst this
    refine RetG.q ⟨rfl, ?_, rfl⟩
    rw [List.take_length]

def numW (w p : List UInt8) : Nat := min (numL (w ++ (p ++ [48, 48, 48]).take 3)) 1099511627776 + (if 3 < p.length ∧ 53 ≤ (p.getD 3 0).toNat then 1 else 0)
def parseW (mi : Bool) (w p : List UInt8) : Int × Int :=
  if w.all isDig = true ∧ p.all isDig = true ∧ w ++ p ≠ [] then told (if mi then 0 - (numW w p : Int) else numW w p) else (0, 3)

def parseL (s : List UInt8) : Int × Int :=
  if 400 < s.length then (0, 2) else parseW (unsL s).2 (cutL (unsL s).1 46).1 (cutL (unsL s).1 46).2.1

theorem parse (s : List UInt8) (hs : s.length < big) : PCalls E 241 [.str s] (· = fxAV (parseL s)) := by
  have hu : (unsL s).1.length ≤ s.length := by
    unfold unsL; split
    · simp
    · split
      · simp
      · split <;> simp
  have hc : (cutL (unsL s).1 46).1.length ≤ s.length ∧ (cutL (unsL s).1 46).2.1.length ≤ s.length := by
    obtain ⟨c1, c2⟩ := cutL_ix (unsL s).1 46
    by_cases h : 0 ≤ ix (unsL s).1 46
    · rw [c1 h]; simp; omega
    · rw [c2 h]; simp; omega
  have hU := unsigned hE s hs
  have hC := cut hE (unsL s).1 46 (by unfold big at *; omega)
  unfold big at hs
  refine p241 hE fun l => ?_
  by_cases h400 : 400 < s.length
  · conv => whnf
    repeat' (first
      | (refine And.intro ?_ ?_; (focus (first | omega | decide | (unfold inI64; omega) | (simp only [List.length_append, List.length_cons, List.length_nil] <;> omega) | (refine ⟨?_, ?_⟩ <;> omega) | (simp <;> omega))); conv => whnf)
      | (refine brD (fun _ => ?_) (fun _ => ?_) <;> conv => whnf)
      | (refine brB (fun _ => ?_) (fun _ => ?_) <;> conv => whnf))
    · refine RetG.q ⟨rfl, ?_, rfl⟩
      simp [parseL, h400]; rfl
    · omega
  obtain ⟨hc1, hc2⟩ := hc
  have h4 : s.length ≤ 400 := by omega
  have hsp : parseL s = parseW (unsL s).2 (cutL (unsL s).1 46).1 (cutL (unsL s).1 46).2.1 := by unfold parseL; rw [if_neg h400]
  rw [hsp]
  generalize cutL (unsL s).1 46 = x at *
  generalize unsL s = y at *
  obtain ⟨w, p, z⟩ := x
  obtain ⟨u, mi⟩ := y
  dsimp only at *
  have hp3 : ((p ++ [48, 48, 48]).take 3).length = 3 := by simp
  have hp3' : (p ++ [48, 48, 48]).length = p.length + 3 := by simp
  have hW : (w ++ p).length = w.length + p.length := by simp
  have hW3 : (w ++ (p ++ [48, 48, 48]).take 3).length = w.length + 3 := by simp
  have hD : w.all isDig = true → p.all isDig = true → (w ++ (p ++ [48, 48, 48]).take 3).all isDig = true := by
    intro h1 h2
    rw [List.all_append, h1, Bool.true_and, List.all_eq_true]
    intro c hc
    have := List.mem_of_mem_take hc
    rcases List.mem_append.mp this with h | h
    · exact List.all_eq_true.mp h2 c h
    · simp at h; subst h; decide
  conv => whnf
  repeat' (first
    | (refine And.intro ?_ ?_; (focus (first | omega | decide | (unfold inI64; omega) | (simp only [List.length_append, List.length_cons, List.length_nil] <;> omega) | (refine ⟨?_, ?_⟩ <;> omega) | (simp <;> omega))); conv => whnf)
    | (refine brD (fun _ => ?_) (fun _ => ?_) <;> conv => whnf)
    | (refine brB (fun _ => ?_) (fun _ => ?_) <;> conv => whnf)
    | (refine CallG.e hU ?_; conv => whnf)
    | (refine CallG.e hC ?_; conv => whnf)
    | (refine CallG.e (fdigits hE w (by unfold big; omega)) ?_; conv => whnf)
    | (refine CallG.e (fdigits hE p (by unfold big; omega)) ?_; conv => whnf)
    | (have e1 := hD (by simpa using ‹(!w.all isDig) = false›) (by simpa using ‹(!p.all isDig) = false›); have e2 := read_ hE (w ++ (p ++ [48, 48, 48]).take 3) (by unfold big; omega) e1; refine CallG.e e2 ?_; conv => whnf)
    | (refine CallG.e (told_ hE _) ?_; conv => whnf))
  · omega
  · rename_i h
    have h : w.all isDig = false := by simpa using h
    exact RetG.q ⟨rfl, by simp [parseW, h]; rfl, rfl⟩
  · rename_i h
    have h : p.all isDig = false := by simpa using h
    exact RetG.q ⟨rfl, by simp [parseW, h]; rfl, rfl⟩
  · rename_i h
    have h : w ++ p = [] := h
    exact RetG.q ⟨rfl, by simp [parseW, h]; rfl, rfl⟩
  all_goals
    have f1 : w.all isDig = true := by simpa using ‹(!w.all isDig) = false›
    have f2 : p.all isDig = true := by simpa using ‹(!p.all isDig) = false›
    have f3 : w ++ p ≠ [] := ‹¬(w, p, z).fst ++ (w, p, z).snd.fst = []›
    have hpw : parseW mi w p = told (if mi then 0 - (numW w p : Int) else numW w p) := by unfold parseW; rw [if_pos ⟨f1, f2, f3⟩]
    rw [hpw]
    refine RetG.q ⟨rfl, ?_, rfl⟩
    refine congrArg (fun q => fxAV (told q)) ?_
    unfold numW
    generalize min (numL (w ++ (p ++ [48, 48, 48]).take 3)) 1099511627776 = n
    have g3 : Int.toNat 3 = 3 := rfl
    simp_all
    split <;> omega
end Ink.D

namespace Ink.D
open Go Go.Proofs
set_option maxRecDepth 100000
variable {E : Env} (hE : E.P = Tryz.prog)

structure Tok where
  kind : Int
  f : Int
  s : List UInt8
  whole : Bool
  from_ : Nat
  to : Nat
  deriving DecidableEq

def Tok.av (t : Tok) : AV := tk t.kind t.f t.s t.whole t.from_ t.to
def Tok.zero : Tok := ⟨0, 0, [], false, 0, 0⟩
def tokAV (x : Tok × Int) : AV := tkE x.1.av x.2

def numStart : List UInt8 := [43, 45, 46, 48, 49, 50, 51, 52, 53, 54, 55, 56, 57]

def wordL (r : List UInt8) (k : Nat) : Tok × Int :=
  let w := r.takeWhile isReg
  if (w.getD 0 0) ∈ numStart then (⟨1, (parseL w).1, [], !decide (46 ∈ w), k, k + w.length⟩, (parseL w).2)
  else (⟨8, 0, w, false, k, k + w.length⟩, 0)

include hE
theorem word (s : List UInt8) (k : Nat) (hs : s.length < 1000000) (hk : k < s.length) (hc : isReg s[k] = true) : PCalls E 205 [.str s, tk 0 0 [] false k 0] (· = tokAV (wordL (s.drop k) k)) := by
  refine p205 hE fun l => ?_
  have hd := List.drop_eq_getElem_cons hk
  have hw := while_ hE s k 150 isReg (by unfold big; omega) (by omega) (regular hE)
  have hwl : whileL isReg s k = k + ((s.drop k).takeWhile isReg).length := rfl
  have hwle := whileL_le isReg s k (by omega)
  have hw0 : ((s.drop k).takeWhile isReg) ≠ [] := by
    rw [hd, List.takeWhile_cons_of_pos hc]; simp
  have hsw : ((s.drop (k : Int).toNat).take (((whileL isReg s k : Nat) : Int).toNat - (k : Int).toNat)) = (s.drop k).takeWhile isReg := by
    rw [Int.toNat_natCast, Int.toNat_natCast, take_whileL]
  unfold wordL
  generalize (s.drop k).takeWhile isReg = w at *
  generalize whileL isReg s k = to at *
  have hwp : 0 < w.length := List.length_pos_iff.mpr hw0
  conv => whnf
  repeat' (first
    | (refine And.intro ?_ ?_; (focus (first | omega | decide | (unfold inI64; omega) | (simp only [List.length_append, List.length_cons, List.length_nil] <;> omega) | (refine ⟨?_, ?_⟩ <;> omega) | (simp <;> omega) | (unfold inI64; simp only [List.length_append, List.length_cons, List.length_nil] <;> omega))); conv => whnf)
    | (refine brD (fun _ => ?_) (fun _ => ?_) <;> conv => whnf)
    | (refine brB (fun _ => ?_) (fun _ => ?_) <;> conv => whnf)
    | (refine CallG.e hw ?_; conv => whnf))
  rw [hsw]
  conv => whnf
  repeat' (first
    | (refine And.intro ?_ ?_; (focus (first | omega | decide | (unfold inI64; omega) | (simp only [List.length_append, List.length_cons, List.length_nil] <;> omega) | (refine ⟨?_, ?_⟩ <;> omega) | (simp <;> omega) | (unfold inI64; simp only [List.length_append, List.length_cons, List.length_nil] <;> omega))); conv => whnf)
    | (refine brD (fun _ => ?_) (fun _ => ?_) <;> conv => whnf)
    | (refine brB (fun _ => ?_) (fun _ => ?_) <;> conv => whnf)
    | (refine CallG.e (index47 hE _ _ (by decide)) ?_; conv => whnf)
    | (refine CallG.e (parse hE w (by unfold big; omega)) ?_; conv => whnf)
    | (refine CallG.e (contains hE w 46 (by unfold big; omega)) ?_; conv => whnf))
  · rename_i h
    have h : w.getD 0 0 ∉ numStart := by
      intro hm
      have := (ix_mem numStart (w.getD 0 0)).mpr hm
      exact absurd h (by simpa [numStart] using this)
    refine RetG.drop rfl rfl rfl ⟨rfl, ?_, rfl⟩
    simp only [h, if_false]
    subst hwl; rfl
  · rename_i h
    have h : w.getD 0 0 ∈ numStart := by
      refine (ix_mem numStart (w.getD 0 0)).mp ?_
      simp only [Int.not_lt] at h
      exact h
    refine RetG.drop rfl rfl rfl ⟨rfl, ?_, rfl⟩
    simp only [h, if_true]
    subst hwl; rfl

omit hE in
def tokL (r : List UInt8) (k : Nat) : Tok × Int :=
  if [91].isPrefixOf r then (⟨4, 0, [], false, k, k + 1⟩, 0)
  else if [93].isPrefixOf r then (⟨5, 0, [], false, k, k + 1⟩, 0)
  else if [60, 60].isPrefixOf r then (⟨6, 0, [], false, k, k + 2⟩, 0)
  else if [62, 62].isPrefixOf r then (⟨7, 0, [], false, k, k + 2⟩, 0)
  else match r with
  | [] => (.zero, 0)
  | c :: t =>
    if c = 47 then match namedL (t.takeWhile isReg) with
      | some n => (⟨2, 0, n, false, k, k + 1 + (t.takeWhile isReg).length⟩, 0)
      | none => (⟨2, 0, [], false, k, k + 1 + (t.takeWhile isReg).length⟩, 3)
    else if c = 40 then match textL t 0 with
      | some x => (⟨3, 0, x.1, false, k, k + 1 + x.2⟩, 0)
      | none => (.zero, 4)
    else if c = 60 then match digsL t with
      | .ok x => (⟨3, 0, pairL x.1, false, k, k + 1 + x.2⟩, 0)
      | .error e => (.zero, e)
    else if isDelim c then (.zero, 3)
    else wordL (c :: t) k

omit hE in
def tokR (c : UInt8) (t : List UInt8) (k : Nat) : Tok × Int :=
  if c = 47 then match namedL (t.takeWhile isReg) with
      | some n => (⟨2, 0, n, false, k, k + 1 + (t.takeWhile isReg).length⟩, 0)
      | none => (⟨2, 0, [], false, k, k + 1 + (t.takeWhile isReg).length⟩, 3)
    else if c = 40 then match textL t 0 with
      | some x => (⟨3, 0, x.1, false, k, k + 1 + x.2⟩, 0)
      | none => (.zero, 4)
    else if c = 60 then match digsL t with
      | .ok x => (⟨3, 0, pairL x.1, false, k, k + 1 + x.2⟩, 0)
      | .error e => (.zero, e)
    else if isDelim c then (.zero, 3)
    else wordL (c :: t) k

omit hE in
theorem tokL_cons (c : UInt8) (t : List UInt8) (k : Nat) (h1 : [91].isPrefixOf (c :: t) = false) (h2 : [93].isPrefixOf (c :: t) = false) (h3 : [60, 60].isPrefixOf (c :: t) = false) (h4 : [62, 62].isPrefixOf (c :: t) = false) :
    tokL (c :: t) k = tokR c t k := by
  unfold tokL tokR
  rw [h1, h2, h3, h4]
  rfl

omit hE in
theorem name_tok (s : List UInt8) (k : Nat) : tkE (tk 2 0 ((namedL (nameSub s k)).getD []) false k (whileL isReg s (k + 1))) (nameE s k) = tokAV (match namedL ((s.drop (k + 1)).takeWhile isReg) with
      | some n => (⟨2, 0, n, false, k, k + 1 + ((s.drop (k + 1)).takeWhile isReg).length⟩, 0)
      | none => (⟨2, 0, [], false, k, k + 1 + ((s.drop (k + 1)).takeWhile isReg).length⟩, 3)) := by
  unfold nameE nameSub whileL
  cases namedL ((s.drop (k + 1)).takeWhile isReg) <;> rfl

omit hE in
theorem text_tok (k : Nat) (o : Option (List UInt8 × Nat)) : textAV k o = tokAV (match o with
      | some x => (⟨3, 0, x.1, false, k, k + 1 + x.2⟩, 0)
      | none => (.zero, 4)) := by
  cases o <;> rfl

omit hE in
theorem digs_tok (k : Nat) (o : Except Int (List UInt8 × Nat)) : digAVs k o = tokAV (match o with
      | .ok x => (⟨3, 0, pairL x.1, false, k, k + 1 + x.2⟩, 0)
      | .error e => (.zero, e)) := by
  cases o <;> rfl

theorem token (s : List UInt8) (k : Nat) (hs : s.length < 1000000) (hk : k < s.length) (hc : isWhite s[k] = false) : PCalls E 137 [.str s, tk 0 0 [] false k 0] (· = tokAV (tokL (s.drop k) k)) := by
  refine p137 hE fun l => ?_
  have hd := List.drop_eq_getElem_cons hk
  have hdl : (s.drop k).length = s.length - k := List.length_drop
  have ek : (k : Int).toNat = k := Int.toNat_natCast k
  conv => whnf
  repeat' (first
    | (refine And.intro ?_ ?_; (focus (first | omega | decide | (unfold inI64; omega) | (simp only [List.length_append, List.length_cons, List.length_nil] <;> omega) | (refine ⟨?_, ?_⟩ <;> omega) | (simp <;> omega) | (unfold inI64; simp only [List.length_append, List.length_cons, List.length_nil] <;> omega))); conv => whnf)
    | (refine brD (fun _ => ?_) (fun _ => ?_) <;> conv => whnf)
    | (refine brB (fun _ => ?_) (fun _ => ?_) <;> conv => whnf))
  rw [ek]
  refine LoopG.s (fun x : Nat => x ≤ 8 ∧ (5 ≤ x → [91].isPrefixOf (s.drop k) = false) ∧ (6 ≤ x → [93].isPrefixOf (s.drop k) = false) ∧ (7 ≤ x → [60, 60].isPrefixOf (s.drop k) = false) ∧ (8 ≤ x → [62, 62].isPrefixOf (s.drop k) = false)) 71
    (fun x => [(0, .str s), (3, .ptr 1 0 0), (4, .ptr 2 0 0), (5, .int .i64 0), (6, .str (s.drop k)), (14, .agg [.str [], .str [], .str [], .str [], .str [91], .str [93], .str [60, 60], .str [62, 62]]), (15, .int .i64 x)])
    (fun _ => [⟨0, true, .frame l⟩, ⟨0, true, .cells 138 (tkC 0 0 [] false k 0)⟩, ⟨0, true, .cells 138 (tkC 0 0 [] false 0 0)⟩]) (fun x => 8 - x) 0 ⟨by omega, by omega, by omega, by omega, by omega⟩ rfl ⟨rfl, rfl, rfl, rfl, rfl, rfl, rfl⟩ rfl ?_
  rintro x ⟨h0, h1, h2, h3, h4⟩
  have hx : x = 0 ∨ x = 1 ∨ x = 2 ∨ x = 3 ∨ x = 4 ∨ x = 5 ∨ x = 6 ∨ x = 7 ∨ x = 8 := by omega
  rcases hx with rfl | rfl | rfl | rfl | rfl | rfl | rfl | rfl | rfl
  · conv => whnf
    repeat' (first
      | (refine And.intro ?_ ?_; (focus (first | omega | decide | (unfold inI64; omega) | (simp only [List.length_append, List.length_cons, List.length_nil] <;> omega) | (refine ⟨?_, ?_⟩ <;> omega) | (simp <;> omega) | (unfold inI64; simp only [List.length_append, List.length_cons, List.length_nil] <;> omega))); conv => whnf)
      | (refine brD (fun _ => ?_) (fun _ => ?_) <;> conv => whnf)
      | (refine brB (fun _ => ?_) (fun _ => ?_) <;> conv => whnf))
    exact ⟨1, ⟨⟨by omega, by omega, by omega, by omega, by omega⟩, by omega⟩, Wk.slots rfl ⟨rfl, rfl, rfl, rfl, rfl, rfl, rfl⟩⟩
  · conv => whnf
    repeat' (first
      | (refine And.intro ?_ ?_; (focus (first | omega | decide | (unfold inI64; omega) | (simp only [List.length_append, List.length_cons, List.length_nil] <;> omega) | (refine ⟨?_, ?_⟩ <;> omega) | (simp <;> omega) | (unfold inI64; simp only [List.length_append, List.length_cons, List.length_nil] <;> omega))); conv => whnf)
      | (refine brD (fun _ => ?_) (fun _ => ?_) <;> conv => whnf)
      | (refine brB (fun _ => ?_) (fun _ => ?_) <;> conv => whnf))
    exact ⟨2, ⟨⟨by omega, by omega, by omega, by omega, by omega⟩, by omega⟩, Wk.slots rfl ⟨rfl, rfl, rfl, rfl, rfl, rfl, rfl⟩⟩
  · conv => whnf
    repeat' (first
      | (refine And.intro ?_ ?_; (focus (first | omega | decide | (unfold inI64; omega) | (simp only [List.length_append, List.length_cons, List.length_nil] <;> omega) | (refine ⟨?_, ?_⟩ <;> omega) | (simp <;> omega) | (unfold inI64; simp only [List.length_append, List.length_cons, List.length_nil] <;> omega))); conv => whnf)
      | (refine brD (fun _ => ?_) (fun _ => ?_) <;> conv => whnf)
      | (refine brB (fun _ => ?_) (fun _ => ?_) <;> conv => whnf))
    exact ⟨3, ⟨⟨by omega, by omega, by omega, by omega, by omega⟩, by omega⟩, Wk.slots rfl ⟨rfl, rfl, rfl, rfl, rfl, rfl, rfl⟩⟩
  · conv => whnf
    repeat' (first
      | (refine And.intro ?_ ?_; (focus (first | omega | decide | (unfold inI64; omega) | (simp only [List.length_append, List.length_cons, List.length_nil] <;> omega) | (refine ⟨?_, ?_⟩ <;> omega) | (simp <;> omega) | (unfold inI64; simp only [List.length_append, List.length_cons, List.length_nil] <;> omega))); conv => whnf)
      | (refine brD (fun _ => ?_) (fun _ => ?_) <;> conv => whnf)
      | (refine brB (fun _ => ?_) (fun _ => ?_) <;> conv => whnf))
    exact ⟨4, ⟨⟨by omega, by omega, by omega, by omega, by omega⟩, by omega⟩, Wk.slots rfl ⟨rfl, rfl, rfl, rfl, rfl, rfl, rfl⟩⟩
  · have hP := hasPrefix hE (s.drop k) [91] (by unfold big; omega) (by decide)
    rcases Bool.eq_false_or_eq_true (List.isPrefixOf [91] (s.drop k)) with hb | hb
    · rw [hb] at hP
      conv => whnf
      repeat' (first
        | (refine And.intro ?_ ?_; (focus (first | omega | decide | (unfold inI64; omega) | (simp only [List.length_append, List.length_cons, List.length_nil] <;> omega) | (refine ⟨?_, ?_⟩ <;> omega) | (simp <;> omega) | (unfold inI64; simp only [List.length_append, List.length_cons, List.length_nil] <;> omega))); conv => whnf)
        | (refine brD (fun _ => ?_) (fun _ => ?_) <;> conv => whnf)
        | (refine brB (fun _ => ?_) (fun _ => ?_) <;> conv => whnf)
        | (refine CallG.e hP ?_; conv => whnf))
      refine RetG.drop rfl rfl rfl ⟨rfl, ?_, rfl⟩
      have : tokL (s.drop k) k = (⟨4, 0, [], false, k, k + 1⟩, 0) := by unfold tokL; rw [hb]; rfl
      rw [this]; rfl
    · rw [hb] at hP
      conv => whnf
      repeat' (first
        | (refine And.intro ?_ ?_; (focus (first | omega | decide | (unfold inI64; omega) | (simp only [List.length_append, List.length_cons, List.length_nil] <;> omega) | (refine ⟨?_, ?_⟩ <;> omega) | (simp <;> omega) | (unfold inI64; simp only [List.length_append, List.length_cons, List.length_nil] <;> omega))); conv => whnf)
        | (refine brD (fun _ => ?_) (fun _ => ?_) <;> conv => whnf)
        | (refine brB (fun _ => ?_) (fun _ => ?_) <;> conv => whnf)
        | (refine CallG.e hP ?_; conv => whnf))
      exact ⟨5, ⟨⟨by omega, fun _ => hb, by omega, by omega, by omega⟩, by omega⟩, Wk.slots rfl ⟨rfl, rfl, rfl, rfl, rfl, rfl, rfl⟩⟩
  · have hP := hasPrefix hE (s.drop k) [93] (by unfold big; omega) (by decide)
    rcases Bool.eq_false_or_eq_true (List.isPrefixOf [93] (s.drop k)) with hb | hb
    · rw [hb] at hP
      conv => whnf
      repeat' (first
        | (refine And.intro ?_ ?_; (focus (first | omega | decide | (unfold inI64; omega) | (simp only [List.length_append, List.length_cons, List.length_nil] <;> omega) | (refine ⟨?_, ?_⟩ <;> omega) | (simp <;> omega) | (unfold inI64; simp only [List.length_append, List.length_cons, List.length_nil] <;> omega))); conv => whnf)
        | (refine brD (fun _ => ?_) (fun _ => ?_) <;> conv => whnf)
        | (refine brB (fun _ => ?_) (fun _ => ?_) <;> conv => whnf)
        | (refine CallG.e hP ?_; conv => whnf))
      refine RetG.drop rfl rfl rfl ⟨rfl, ?_, rfl⟩
      have : tokL (s.drop k) k = (⟨5, 0, [], false, k, k + 1⟩, 0) := by unfold tokL; rw [h1 (by omega), hb]; rfl
      rw [this]; rfl
    · rw [hb] at hP
      conv => whnf
      repeat' (first
        | (refine And.intro ?_ ?_; (focus (first | omega | decide | (unfold inI64; omega) | (simp only [List.length_append, List.length_cons, List.length_nil] <;> omega) | (refine ⟨?_, ?_⟩ <;> omega) | (simp <;> omega) | (unfold inI64; simp only [List.length_append, List.length_cons, List.length_nil] <;> omega))); conv => whnf)
        | (refine brD (fun _ => ?_) (fun _ => ?_) <;> conv => whnf)
        | (refine brB (fun _ => ?_) (fun _ => ?_) <;> conv => whnf)
        | (refine CallG.e hP ?_; conv => whnf))
      exact ⟨6, ⟨⟨by omega, fun _ => h1 (by omega), fun _ => hb, by omega, by omega⟩, by omega⟩, Wk.slots rfl ⟨rfl, rfl, rfl, rfl, rfl, rfl, rfl⟩⟩
  · have hP := hasPrefix hE (s.drop k) [60, 60] (by unfold big; omega) (by decide)
    rcases Bool.eq_false_or_eq_true (List.isPrefixOf [60, 60] (s.drop k)) with hb | hb
    · rw [hb] at hP
      conv => whnf
      repeat' (first
        | (refine And.intro ?_ ?_; (focus (first | omega | decide | (unfold inI64; omega) | (simp only [List.length_append, List.length_cons, List.length_nil] <;> omega) | (refine ⟨?_, ?_⟩ <;> omega) | (simp <;> omega) | (unfold inI64; simp only [List.length_append, List.length_cons, List.length_nil] <;> omega))); conv => whnf)
        | (refine brD (fun _ => ?_) (fun _ => ?_) <;> conv => whnf)
        | (refine brB (fun _ => ?_) (fun _ => ?_) <;> conv => whnf)
        | (refine CallG.e hP ?_; conv => whnf))
      refine RetG.drop rfl rfl rfl ⟨rfl, ?_, rfl⟩
      have : tokL (s.drop k) k = (⟨6, 0, [], false, k, k + 2⟩, 0) := by unfold tokL; rw [h1 (by omega), h2 (by omega), hb]; rfl
      rw [this]; rfl
    · rw [hb] at hP
      conv => whnf
      repeat' (first
        | (refine And.intro ?_ ?_; (focus (first | omega | decide | (unfold inI64; omega) | (simp only [List.length_append, List.length_cons, List.length_nil] <;> omega) | (refine ⟨?_, ?_⟩ <;> omega) | (simp <;> omega) | (unfold inI64; simp only [List.length_append, List.length_cons, List.length_nil] <;> omega))); conv => whnf)
        | (refine brD (fun _ => ?_) (fun _ => ?_) <;> conv => whnf)
        | (refine brB (fun _ => ?_) (fun _ => ?_) <;> conv => whnf)
        | (refine CallG.e hP ?_; conv => whnf))
      exact ⟨7, ⟨⟨by omega, fun _ => h1 (by omega), fun _ => h2 (by omega), fun _ => hb, by omega⟩, by omega⟩, Wk.slots rfl ⟨rfl, rfl, rfl, rfl, rfl, rfl, rfl⟩⟩
  · have hP := hasPrefix hE (s.drop k) [62, 62] (by unfold big; omega) (by decide)
    rcases Bool.eq_false_or_eq_true (List.isPrefixOf [62, 62] (s.drop k)) with hb | hb
    · rw [hb] at hP
      conv => whnf
      repeat' (first
        | (refine And.intro ?_ ?_; (focus (first | omega | decide | (unfold inI64; omega) | (simp only [List.length_append, List.length_cons, List.length_nil] <;> omega) | (refine ⟨?_, ?_⟩ <;> omega) | (simp <;> omega) | (unfold inI64; simp only [List.length_append, List.length_cons, List.length_nil] <;> omega))); conv => whnf)
        | (refine brD (fun _ => ?_) (fun _ => ?_) <;> conv => whnf)
        | (refine brB (fun _ => ?_) (fun _ => ?_) <;> conv => whnf)
        | (refine CallG.e hP ?_; conv => whnf))
      refine RetG.drop rfl rfl rfl ⟨rfl, ?_, rfl⟩
      have : tokL (s.drop k) k = (⟨7, 0, [], false, k, k + 2⟩, 0) := by unfold tokL; rw [h1 (by omega), h2 (by omega), h3 (by omega), hb]; rfl
      rw [this]; rfl
    · rw [hb] at hP
      conv => whnf
      repeat' (first
        | (refine And.intro ?_ ?_; (focus (first | omega | decide | (unfold inI64; omega) | (simp only [List.length_append, List.length_cons, List.length_nil] <;> omega) | (refine ⟨?_, ?_⟩ <;> omega) | (simp <;> omega) | (unfold inI64; simp only [List.length_append, List.length_cons, List.length_nil] <;> omega))); conv => whnf)
        | (refine brD (fun _ => ?_) (fun _ => ?_) <;> conv => whnf)
        | (refine brB (fun _ => ?_) (fun _ => ?_) <;> conv => whnf)
        | (refine CallG.e hP ?_; conv => whnf))
      exact ⟨8, ⟨⟨by omega, fun _ => h1 (by omega), fun _ => h2 (by omega), fun _ => h3 (by omega), fun _ => hb⟩, by omega⟩, Wk.slots rfl ⟨rfl, rfl, rfl, rfl, rfl, rfl, rfl⟩⟩
  · have ht : tokL (s.drop k) k = tokR s[k] (s.drop (k + 1)) k := by
      rw [hd] at h1 h2 h3 h4 ⊢
      exact tokL_cons _ _ _ (h1 (by omega)) (h2 (by omega)) (h3 (by omega)) (h4 (by omega))
    have hN := name hE s k (by unfold big; omega) hk
    rw [name_tok] at hN
    have hg : (s.drop k).getD (Int.toNat 0) 0 = s[k] := by rw [hd]; rfl
    have hreg : isReg s[k] = !isDelim s[k] := by simp [isReg, hc]
    rw [ht]
    have hT := text hE s k (by unfold big; omega) hk
    rw [text_tok] at hT
    have hD := digits hE s k hs hk
    rw [digs_tok] at hD
    unfold tokR
    generalize (match namedL ((s.drop (k + 1)).takeWhile isReg) with
      | some n => ((⟨2, 0, n, false, k, k + 1 + ((s.drop (k + 1)).takeWhile isReg).length⟩ : Tok), (0 : Int))
      | none => (⟨2, 0, [], false, k, k + 1 + ((s.drop (k + 1)).takeWhile isReg).length⟩, 3)) = X1 at *
    generalize (match textL (s.drop (k + 1)) 0 with
      | some x => ((⟨3, 0, x.1, false, k, k + 1 + x.2⟩ : Tok), (0 : Int))
      | none => (.zero, 4)) = X2 at *
    generalize (match digsL (s.drop (k + 1)) with
      | .ok x => ((⟨3, 0, pairL x.1, false, k, k + 1 + x.2⟩ : Tok), (0 : Int))
      | .error e => (.zero, e)) = X3 at *
    have hWd : ¬ (s.drop k).getD (Int.toNat 0) 0 ∈ [40, 41, 60, 62, 91, 93, 123, 125, 47, 37] → PCalls E 205 [.str s, tk 0 0 [] false k 0] (· = tokAV (wordL (s.drop k) k)) := fun h => by
      rw [hg] at h
      exact word hE s k hs hk (by rw [hreg]; unfold isDelim; rw [decide_eq_false h]; rfl)
    conv => whnf
    repeat' (first
      | (refine And.intro ?_ ?_; (focus (first | omega | decide | (unfold inI64; omega) | (simp only [List.length_append, List.length_cons, List.length_nil] <;> omega) | (refine ⟨?_, ?_⟩ <;> omega) | (simp <;> omega) | (unfold inI64; simp only [List.length_append, List.length_cons, List.length_nil] <;> omega))); conv => whnf)
      | (refine brD (fun _ => ?_) (fun _ => ?_) <;> conv => whnf)
      | (refine brB (fun _ => ?_) (fun _ => ?_) <;> conv => whnf)
      | (refine CallG.e hN ?_; conv => whnf)
      | (refine CallG.e hT ?_; conv => whnf)
      | (refine CallG.e hD ?_; conv => whnf)
      | (refine CallG.e (delim hE _) ?_; conv => whnf)
      | (refine CallG.e (hWd (by assumption)) ?_; conv => whnf))
    all_goals refine RetG.drop rfl rfl rfl ⟨rfl, ?_, rfl⟩
    all_goals rw [hg] at *
    · rename_i a
      have a : s[k] = 47 := by simpa [zEq] using a
      rw [if_pos a]; rfl
    · rename_i a b
      have a : s[k] ≠ 47 := by simpa [zEq] using a
      have b : s[k] = 40 := by simpa [zEq] using b
      rw [if_neg a, if_pos b]; rfl
    · rename_i a b c
      have a : s[k] ≠ 47 := by simpa [zEq] using a
      have b : s[k] ≠ 40 := by simpa [zEq] using b
      have c : s[k] = 60 := by simpa [zEq] using c
      rw [if_neg a, if_neg b, if_pos c]; rfl
    · rename_i a b c d
      have a : s[k] ≠ 47 := by simpa [zEq] using a
      have b : s[k] ≠ 40 := by simpa [zEq] using b
      have c : s[k] ≠ 60 := by simpa [zEq] using c
      rw [if_neg a, if_neg b, if_neg c, if_pos (by unfold isDelim; exact decide_eq_true d)]; rfl
    · rename_i a b c d
      have a : s[k] ≠ 47 := by simpa [zEq] using a
      have b : s[k] ≠ 40 := by simpa [zEq] using b
      have c : s[k] ≠ 60 := by simpa [zEq] using c
      rw [if_neg a, if_neg b, if_neg c, if_neg (by unfold isDelim; rw [decide_eq_false d]; simp), ← hd]; rfl

omit hE in
def nextL (s : List UInt8) (at_ : Int) : Tok × Int :=
  if at_ < 0 ∨ (s.length : Int) < at_ then (.zero, 1) else
  let k := spaceL s at_.toNat
  if k = s.length then (⟨0, 0, [], false, k, k⟩, 0) else
  if (tokL (s.drop k) k).2 = 0 then tokL (s.drop k) k else (.zero, (tokL (s.drop k) k).2)

omit hE in
theorem skip_le : ∀ (l : List UInt8) (b : Bool), skip l b ≤ l.length
  | [], b => by simp [skip]
  | c :: r, true => by
    have h1 := skip_le r true
    have h2 := skip_le r false
    simp only [skip, List.length_cons]
    split <;> omega
  | c :: r, false => by
    have h1 := skip_le r true
    have h2 := skip_le r false
    simp only [skip, List.length_cons]
    split
    · omega
    · split <;> omega

omit hE in
theorem skip_at : ∀ (l : List UInt8) (b : Bool) (x : UInt8) (_ : l[skip l b]? = some x), isWhite x = false ∧ x ≠ 37
  | [], b, x, h => by simp at h
  | c :: r, true, x, h => by
    have h1 := skip_at r true x
    have h2 := skip_at r false x
    simp only [skip] at h
    split at h
    · rw [Nat.add_comm, List.getElem?_cons_succ] at h; exact h1 h
    · rw [Nat.add_comm, List.getElem?_cons_succ] at h; exact h2 h
  | c :: r, false, x, h => by
    have h1 := skip_at r true x
    have h2 := skip_at r false x
    simp only [skip] at h
    split at h
    · rw [Nat.add_comm, List.getElem?_cons_succ] at h; exact h2 h
    · split at h
      · rw [Nat.add_comm, List.getElem?_cons_succ] at h; exact h1 h
      · rename_i a b
        simp at h; subst h
        exact ⟨by simpa using a, b⟩

omit hE in
theorem spaceL_le (s : List UInt8) (k : Nat) (h : k ≤ s.length) : k ≤ spaceL s k ∧ spaceL s k ≤ s.length := by
  have := skip_le (s.drop k) false
  simp at this
  unfold spaceL; omega

omit hE in
theorem spaceL_at (s : List UInt8) (k : Nat) (h : spaceL s k < s.length) : isWhite s[spaceL s k] = false ∧ s[spaceL s k] ≠ 37 := by
  refine skip_at (s.drop k) false _ ?_
  rw [List.getElem?_drop]
  exact List.getElem?_eq_getElem h

theorem next (s : List UInt8) (at_ : Int) (hs : s.length < 1000000) : PCalls E 85 [.str s, .int .i64 at_] (· = tokAV (nextL s at_)) := by
  refine p85 hE fun l => ?_
  have hS := space hE s at_ (by unfold big; omega)
  by_cases hr : at_ < 0 ∨ (s.length : Int) < at_
  · have hn : nextL s at_ = (.zero, 1) := by unfold nextL; rw [if_pos hr]
    rw [hn]
    conv => whnf
    repeat' (first
      | (refine And.intro ?_ ?_; (focus (first | omega | decide | (unfold inI64; omega) | (simp only [List.length_append, List.length_cons, List.length_nil] <;> omega) | (refine ⟨?_, ?_⟩ <;> omega) | (simp <;> omega) | (unfold inI64; simp only [List.length_append, List.length_cons, List.length_nil] <;> omega))); conv => whnf)
      | (refine brD (fun _ => ?_) (fun _ => ?_) <;> conv => whnf)
      | (refine brB (fun _ => ?_) (fun _ => ?_) <;> conv => whnf)
      | (refine CallG.e hS ?_; conv => whnf))
    · exact RetG.drop rfl rfl rfl ⟨rfl, rfl, rfl⟩
    · exact RetG.drop rfl rfl rfl ⟨rfl, rfl, rfl⟩
    all_goals omega
  · have hcl : clampL s at_ = at_.toNat := by unfold clampL; omega
    have hle := spaceL_le s at_.toNat (by omega)
    have hn : nextL s at_ = if spaceL s at_.toNat = s.length then (⟨0, 0, [], false, spaceL s at_.toNat, spaceL s at_.toNat⟩, 0) else
        if (tokL (s.drop (spaceL s at_.toNat)) (spaceL s at_.toNat)).2 = 0 then tokL (s.drop (spaceL s at_.toNat)) (spaceL s at_.toNat) else (.zero, (tokL (s.drop (spaceL s at_.toNat)) (spaceL s at_.toNat)).2) := by
      unfold nextL; rw [if_neg hr]
    rw [hcl] at hS
    have hat := spaceL_at s at_.toNat
    rw [hn]
    generalize spaceL s at_.toNat = k at *
    have hT : ¬ (k : Int) = (s.length : Int) → PCalls E 137 [.str s, tk 0 0 [] false k 0] (· = tokAV (tokL (s.drop k) k)) := fun h => token hE s k hs (by omega) (hat (by omega)).1
    generalize tokL (s.drop k) k = X at *
    conv => whnf
    repeat' (first
      | (refine And.intro ?_ ?_; (focus (first | omega | decide | (unfold inI64; omega) | (simp only [List.length_append, List.length_cons, List.length_nil] <;> omega) | (refine ⟨?_, ?_⟩ <;> omega) | (simp <;> omega) | (unfold inI64; simp only [List.length_append, List.length_cons, List.length_nil] <;> omega))); conv => whnf)
      | (refine brD (fun _ => ?_) (fun _ => ?_) <;> conv => whnf)
      | (refine brB (fun _ => ?_) (fun _ => ?_) <;> conv => whnf)
      | (refine CallG.e hS ?_; conv => whnf)
      | (refine CallG.e (hT (by assumption)) ?_; conv => whnf))
    · rename_i h; omega
    · rename_i h; omega
    · rename_i h
      rw [if_pos (by omega)]
      exact RetG.drop rfl rfl rfl ⟨rfl, rfl, rfl⟩
    · rename_i h h2
      rw [if_neg (by omega), if_neg h2]
      exact RetG.drop rfl rfl rfl ⟨rfl, rfl, rfl⟩
    · rename_i h h2
      have h2 : X.2 = 0 := by simpa using h2
      rw [if_neg (by omega), if_pos h2]
      refine RetG.drop rfl rfl rfl ⟨rfl, ?_, rfl⟩
      unfold tokAV; rw [h2]; rfl
end Ink.D
