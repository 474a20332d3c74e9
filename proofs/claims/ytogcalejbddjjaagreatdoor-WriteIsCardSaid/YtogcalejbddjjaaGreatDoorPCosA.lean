import Derived.Test.YtogcalejbddjjaaGreatDoorPObj
import Derived.Test.YtogcalejbddjjaaGreatDoorPLexA
import Derived.Test.YtogcalejbddjjaaGreatDoorInkE
import Derived.Test.YtogcalejbddjjaaGreatDoorInkF
set_option linter.all false
namespace Ink.D
open Go Go.Proofs
set_option maxRecDepth 100000
variable {E : Env} (hE : E.P = Tryz.prog)

theorem obE_eq (e : List UInt8 × Ob) : obE e = .str e.1 :: obC e.2 := by obtain ⟨a, b⟩ := e; rfl

def ixK (key : List UInt8) : List (List UInt8 × Ob) → Int → Int
  | [], _ => -1
  | e :: r, i => if e.1 = key then i else ixK key r (i + 1)

theorem obD_get {d : List (List UInt8 × Ob)} {k : Nat} (h : k < d.length) : (obD d).getD (k : Int).toNat [] = obE d[k] := by
  rw [obD_map]; simp [h]

theorem obD_length (d : List (List UInt8 × Ob)) : (obD d).length = d.length := by rw [obD_map]; simp

include hE
theorem dictionary (k n f : Int) (s : List UInt8) (l_ : List Ob) (d : List (List UInt8 × Ob)) : PCalls E 159 [.agg (obC (.mk k n f s l_ d))] (· = .bool (decide (k = 6 ∨ k = 8))) := by
  refine p159 hE (fun l => ?_) (by simp [hbL, hb, obC_hb])
  unfold obC
  conv => whnf
  repeat' (first
    | (refine And.intro W1 ?_; conv => whnf)
    | (refine brD (fun _ => ?_) (fun _ => ?_) <;> first | (exfalso; omega) | (conv => whnf))
    | (refine brB (fun _ => ?_) (fun _ => ?_) <;> conv => whnf))
  all_goals
    refine RetG.drop rfl rfl rfl ⟨rfl, congrArg AV.bool ?_, rfl⟩
    first | (symm; rw [decide_eq_true (by omega)]; done) | (rw [decide_eq_decide]; omega)

theorem isKey81 (e : List UInt8 × Ob) (key : List UInt8) : PCalls E 226 [.agg (obE e), .pimm [.str key]] (· = .bool (decide (e.1 = key))) := by
  obtain ⟨a, o⟩ := e
  obtain ⟨k, n, f, s, l_, d⟩ := o
  refine p226 hE (fun l => ?_) (by simp [hbL, hb, obE_hb])
  unfold obE obC
  conv => whnf
  repeat' (first
    | (refine And.intro W1 ?_; conv => whnf)
    | (refine brD (fun _ => ?_) (fun _ => ?_) <;> first | (exfalso; omega) | (conv => whnf))
    | (refine brB (fun _ => ?_) (fun _ => ?_) <;> conv => whnf))
  all_goals exact RetG.drop rfl rfl rfl ⟨rfl, rfl, rfl⟩

omit hE in
theorem ixK_drop (key : List UInt8) {d : List (List UInt8 × Ob)} {x : Nat} (h : x < d.length) : ixK key (d.drop x) x = if d[x].1 = key then (x : Int) else ixK key (d.drop (x + 1)) (x + 1 : Nat) := by
  rw [List.drop_eq_getElem_cons h, ixK]; rfl

theorem indexFunc (f : FuncId) (key : List UInt8) (hf : ∀ e, PCalls E f [.agg (obE e), .pimm [.str key]] (· = .bool (decide (e.1 = key)))) (d : List (List UInt8 × Ob)) (hd : d.length < big) :
    PCalls E 225 [.imm 7 (obD d), .fn (.func f) [] [.pimm [.str key]]] (· = .int .i64 (ixK key d 0)) := by
  have hl := obD_length d
  unfold big at hd
  refine p225 hE (fun l => ?_) (by simp [hbL, hb, obD_hb])
  conv => whnf
  repeat' (first
    | (refine And.intro W1 ?_; conv => whnf)
    | (refine brD (fun _ => ?_) (fun _ => ?_) <;> first | (exfalso; omega) | (conv => whnf))
    | (refine brB (fun _ => ?_) (fun _ => ?_) <;> conv => whnf))
  refine LoopG.s (fun x : Nat => x ≤ d.length ∧ ixK key (d.drop x) x = ixK key d 0) 19 (fun x => [(0, .imm 7 (obD d)), (1, .fn (.func f) [] [.pimm [.str key]]), (4, .int .i64 0), (6, .imm 7 (obD d)), (7, .int .i64 (obD d).length), (8, .int .i64 x)]) (fun _ => frm l) (fun x => d.length - x) 0 ⟨by simp, by simp⟩ rfl ⟨rfl, rfl, rfl, rfl, rfl, rfl⟩ rfl ?_
  rintro x ⟨h1, h2⟩
  by_cases hx : x < d.length
  · have hg := obD_get hx
    have hk := ixK_drop key hx
    have hp := hf d[x]
    have hcl : ∃ c0 c1 c2 c3 c4 c5 c6, obE d[x] = [c0, c1, c2, c3, c4, c5, c6] := by
      generalize d[x] = e; obtain ⟨a, o⟩ := e; cases o; exact ⟨_, _, _, _, _, _, _, rfl⟩
    obtain ⟨c0, c1, c2, c3, c4, c5, c6, hc⟩ := hcl
    rw [hc] at hg hp
    generalize d[x].1 = y at *
    conv => whnf
    repeat' (first
      | (rw [hg]; conv => whnf)
      | (refine And.intro W1 ?_; conv => whnf)
      | (refine brD (fun _ => ?_) (fun _ => ?_) <;> first | (exfalso; omega) | (conv => whnf))
      | (refine brB (fun _ => ?_) (fun _ => ?_) <;> conv => whnf)
      | ((first | refine CallG.e hp ?_ | refine CallD.e hp ?_ | refine CallQ.e hp ?_); conv => whnf))
    · rename_i h
      rw [if_pos h] at hk
      exact RetG.q ⟨rfl, congrArg (AV.int .i64) (by rw [← h2, hk]), rfl⟩
    · rename_i h
      rw [if_neg h] at hk
      exact ⟨x + 1, ⟨⟨by omega, by rw [← hk, h2]⟩, by omega⟩, Wk.slots rfl ⟨rfl, rfl, rfl, rfl, rfl, rfl⟩⟩
  · conv => whnf
    repeat' (first
      | (refine And.intro W1 ?_; conv => whnf)
      | (refine brD (fun _ => ?_) (fun _ => ?_) <;> first | (exfalso; omega) | (conv => whnf))
      | (refine brB (fun _ => ?_) (fun _ => ?_) <;> conv => whnf))
    have : x = d.length := by omega
    subst this
    rw [List.drop_length] at h2
    exact RetG.q ⟨rfl, congrArg (AV.int .i64) h2, rfl⟩

theorem place (d : List (List UInt8 × Ob)) (key : List UInt8) (hd : d.length < big) : PCalls E 160 [.imm 7 (obD d), .str key] (· = .int .i64 (ixK key d 0)) := by
  have h := indexFunc hE 226 key (fun e => isKey81 hE e key) d hd
  have hD : ∀ n0, hbLL n0 (obD d) = true := fun n0 => obD_hb d
  refine PCalls.mk (by simp [hbL, hb, hD]) fun l => ?_
  refine ACalls.enterW (by rw [hE]; exact hm) (by rw [hE]; exact Tryz.func160) (by rw [hE]; exact c160) rfl ⟨slots 8 [(0, .imm 7 (obD d)), (3, .pimm [.str key])], frm l⟩ ?_ ?_
  · conv => whnf
    repeat' (first
      | (refine And.intro W1 ?_; conv => whnf)
      | (refine brD (fun _ => ?_) (fun _ => ?_) <;> first | (exfalso; omega) | (conv => whnf))
      | (refine brB (fun _ => ?_) (fun _ => ?_) <;> conv => whnf))
    exact Wk.cut 1 rfl rfl rfl ⟨⟨_, rfl, .same _ (hD 1)⟩, ⟨_, rfl, .ptr 1 0 0 9 [.str key] [.str key] rfl (Nat.le_refl 1) (by simp [sc]) (by simp) (fun j x y hx hy => by
      rw [Nat.zero_add, hx] at hy; cases hy
      match j, hx with
      | 0, hx => cases hx; exact .same _ rfl)⟩, trivial⟩ rfl rfl
  · conv => whnf
    repeat' (first
      | (refine And.intro W1 ?_; conv => whnf)
      | (refine brD (fun _ => ?_) (fun _ => ?_) <;> first | (exfalso; omega) | (conv => whnf))
      | (refine brB (fun _ => ?_) (fun _ => ?_) <;> conv => whnf)
      | ((first | refine CallG.e h ?_ | refine CallD.e h ?_ | refine CallQ.e h ?_); conv => whnf))
    exact RetG.q ⟨rfl, rfl, rfl⟩
end Ink.D

namespace Ink.D
open Go Go.Proofs
set_option maxRecDepth 100000
variable {E : Env} (hE : E.P = Tryz.prog)

include hE
theorem clone1 (e : List UInt8 × Ob) (d : List (List UInt8 × Ob)) (hd : d.length < 100000000) (b0 b1 b2 b3 b4 : Blk) :
    ACalls E 162 [.imm 7 (obD (e :: d))] [b0, b1, b2, b3, b4] fun r H' => r = .own 5 1 0 (d.length + 1) 7 ∧ H' = [b0, b1, b2, b3, b4, ⟨1, true, .cells 106 (obD (e :: d)).flatten⟩] := by
  refine a162 hE ?_
  have hl := obD_length d
  unfold obD
  conv => whnf
  repeat' (first
    | (refine And.intro W1 ?_; conv => whnf)
    | (refine brD (fun _ => ?_) (fun _ => ?_) <;> first | (exfalso; omega) | (conv => whnf))
    | (refine brB (fun _ => ?_) (fun _ => ?_) <;> conv => whnf))
  refine RetG.q ⟨?_, ?_⟩
  · rw [List.length_cons, hl, Nat.zero_add, Nat.zero_add]; rfl
  · simp

theorem clone0 (k : Nat) (H : List Blk) : ACalls E 162 [.lit (.slice none 0 k)] H fun r H' => r = .lit (.slice none 0 0) ∧ H' = H := by
  refine a162 hE ?_
  conv => whnf
  repeat' (first
    | (refine And.intro W1 ?_; conv => whnf)
    | (refine brD (fun _ => ?_) (fun _ => ?_) <;> first | (exfalso; omega) | (conv => whnf))
    | (refine brB (fun _ => ?_) (fun _ => ?_) <;> conv => whnf))
  exact RetG.q ⟨rfl, rfl⟩

theorem cloneE (a : Addr) (cap : Nat) (b0 b1 b2 b3 b4 : Blk) :
    ACalls E 162 [.lit (.slice (some a) 0 cap)] [b0, b1, b2, b3, b4] fun r H' => r = .own 5 1 0 0 7 ∧ H' = [b0, b1, b2, b3, b4, ⟨1, true, .cells 106 []⟩] := by
  refine a162 hE ?_
  conv => whnf
  repeat' (first
    | (refine And.intro W1 ?_; conv => whnf)
    | (refine brD (fun _ => ?_) (fun _ => ?_) <;> first | (exfalso; omega) | (conv => whnf))
    | (refine brB (fun _ => ?_) (fun _ => ?_) <;> conv => whnf))
  exact RetG.q ⟨rfl, rfl⟩
end Ink.D

namespace Ink.D
open Go Go.Proofs
set_option maxRecDepth 100000
variable {E : Env} (hE : E.P = Tryz.prog)

def cellsD (d : List (List UInt8 × Ob)) : List AV := (obD d).flatten

theorem obE_len (e : List UInt8 × Ob) : (obE e).length = 7 := by obtain ⟨a, o⟩ := e; cases o; rfl

theorem cellsD_append (a b : List (List UInt8 × Ob)) : cellsD (a ++ b) = cellsD a ++ cellsD b := by
  simp [cellsD, obD_map]
theorem cellsD_nil : cellsD [] = [] := rfl
theorem cellsD_cons (e : List UInt8 × Ob) (d : List (List UInt8 × Ob)) : cellsD (e :: d) = obE e ++ cellsD d := by
  simp [cellsD, obD_map]
theorem cellsD_length : ∀ d : List (List UInt8 × Ob), (cellsD d).length = d.length * 7
  | [] => rfl
  | e :: d => by rw [cellsD_cons, List.length_append, cellsD_length d, obE_len, List.length_cons]; omega

theorem cellsD_take (d : List (List UInt8 × Ob)) (X : List AV) {k : Nat} (h : k ≤ d.length) : (cellsD d ++ X).take (k * 7) = cellsD (d.take k) := by
  have e : (cellsD (d.take k)).length = k * 7 := by rw [cellsD_length, List.length_take]; congr 1; omega
  have e2 : cellsD d = cellsD (d.take k) ++ cellsD (d.drop k) := by rw [← cellsD_append, List.take_append_drop]
  rw [e2, List.append_assoc, ← e, List.take_left]

theorem cellsD_drop (d : List (List UInt8 × Ob)) (X : List AV) {k : Nat} (h : k ≤ d.length) : (cellsD d ++ X).drop (k * 7) = cellsD (d.drop k) ++ X := by
  have e : (cellsD (d.take k)).length = k * 7 := by rw [cellsD_length, List.length_take]; congr 1; omega
  have e2 : cellsD d = cellsD (d.take k) ++ cellsD (d.drop k) := by rw [← cellsD_append, List.take_append_drop]
  rw [e2, List.append_assoc, ← e, List.drop_left]

theorem cellsD_get (d : List (List UInt8 × Ob)) (X : List AV) {k : Nat} (h : k < d.length) : ((cellsD d ++ X).drop (k * 7)).take 7 = obE d[k] := by
  rw [cellsD_drop d X (by omega), List.drop_eq_getElem_cons h, cellsD_cons, List.append_assoc]
  rw [List.take_append_of_le_length (by rw [obE_len]; omega), List.take_of_length_le (by rw [obE_len]; omega)]

theorem cellsD_set (d : List (List UInt8 × Ob)) (X : List AV) (e : List UInt8 × Ob) {k : Nat} (h : k < d.length) : (cellsD d ++ X).take (k * 7) ++ (obE e ++ (cellsD d ++ X).drop (k * 7 + 7)) = cellsD (d.set k e) ++ X := by
  have e1 : k * 7 + 7 = (k + 1) * 7 := by omega
  rw [e1, cellsD_take d X (by omega), cellsD_drop d X (by omega), List.set_eq_take_append_cons_drop, if_pos h, cellsD_append, cellsD_cons]
  simp

include hE
theorem isKeyB (e : List UInt8 × Ob) (key : List UInt8) : BCalls E 163 [.agg (obE e), .ptr 1 0 0] [.cells 9 [.str key]] fun r ks => r = .bool (decide (e.1 = key)) ∧ ks = [.cells 9 [.str key]] := by
  obtain ⟨a, o⟩ := e
  obtain ⟨k, n, f, s, l_, d⟩ := o
  refine b163 hE fun l => ?_
  unfold obE obC
  conv => whnf
  repeat' (first
    | (refine And.intro W1 ?_; conv => whnf)
    | (refine brD (fun _ => ?_) (fun _ => ?_) <;> first | (exfalso; omega) | (conv => whnf))
    | (refine brB (fun _ => ?_) (fun _ => ?_) <;> conv => whnf))
  all_goals exact RetG.drop rfl rfl rfl ⟨rfl, [.cells 9 [.str key]], rfl, rfl, rfl, rfl, rfl⟩

theorem indexOwn (key : List UInt8) (d : List (List UInt8 × Ob)) (hd : d.length < big) (b0 b1 b3 b4 : Blk) :
    ACalls E 225 [.own 5 1 0 d.length 7, .fn (.func 163) [] [.ptr 2 0 0]] [b0, b1, ⟨0, true, .cells 9 [.str key]⟩, b3, b4, ⟨1, true, .cells 106 (cellsD d ++ [])⟩] fun r H' => r = .int .i64 (ixK key d 0) ∧ H' = [b0, b1, ⟨0, true, .cells 9 [.str key]⟩, b3, b4, ⟨1, true, .cells 106 (cellsD d ++ [])⟩] := by
  have hl := obD_length d
  unfold big at hd
  refine a225 hE ?_
  conv => whnf
  repeat' (first
    | (refine And.intro W1 ?_; conv => whnf)
    | (refine brD (fun _ => ?_) (fun _ => ?_) <;> first | (exfalso; omega) | (conv => whnf))
    | (refine brB (fun _ => ?_) (fun _ => ?_) <;> conv => whnf))
  refine LoopG.s (fun x : Nat => x ≤ d.length ∧ ixK key (d.drop x) x = ixK key d 0) 19 (fun x => [(0, .own 5 1 0 d.length 7), (1, .fn (.func 163) [] [.ptr 2 0 0]), (4, .int .i64 0), (6, .own 5 1 0 d.length 7), (7, .int .i64 d.length), (8, .int .i64 x)]) (fun _ => [b0, b1, ⟨0, true, .cells 9 [.str key]⟩, b3, b4, ⟨1, true, .cells 106 (cellsD d ++ [])⟩]) (fun x => d.length - x) 0 ⟨by simp, by simp⟩ rfl ⟨rfl, rfl, rfl, rfl, rfl, rfl⟩ rfl ?_
  rintro x ⟨h1, h2⟩
  by_cases hx : x < d.length
  · have hg : ((cellsD d ++ []).drop (0 + (x : Int).toNat * 7)).take 7 = obE d[x] := by rw [Nat.zero_add]; exact cellsD_get d [] hx
    have hg2 : 0 + (x : Int).toNat * 7 + 7 ≤ (cellsD d ++ []).length := by rw [List.append_nil, cellsD_length]; simp; omega
    have hk := ixK_drop key hx
    have hp := isKeyB hE d[x] key
    have hh := obE_hb (n0 := 0) d[x]
    generalize d[x] = e at *
    conv => whnf
    repeat' (first
      | (refine And.intro W1 ?_; conv => whnf)
      | (refine brD (fun _ => ?_) (fun _ => ?_) <;> first | (exfalso; omega) | (conv => whnf))
      | (refine brB (fun _ => ?_) (fun _ => ?_) <;> conv => whnf)
      | (refine stepOk (load_n rfl rfl hg hg2) ?_; conv => whnf)
      | (refine CallG.b [(2, 0)] hp ⟨rfl, trivial⟩ ⟨.same _ hh, .ptr 0 2 0 0 rfl, trivial⟩ (fun r ks' hq _ _ => ?_); obtain ⟨rfl, rfl⟩ := hq; conv => whnf))
    · rename_i h
      rw [if_pos h] at hk
      exact RetG.q ⟨congrArg (AV.int .i64) (by rw [← h2, hk]), rfl⟩
    · rename_i h
      rw [if_neg h] at hk
      exact ⟨x + 1, ⟨⟨by omega, by rw [← hk, h2]⟩, by omega⟩, Wk.slots rfl ⟨rfl, rfl, rfl, rfl, rfl, rfl⟩⟩
  · conv => whnf
    repeat' (first
      | (refine And.intro W1 ?_; conv => whnf)
      | (refine brD (fun _ => ?_) (fun _ => ?_) <;> first | (exfalso; omega) | (conv => whnf))
      | (refine brB (fun _ => ?_) (fun _ => ?_) <;> conv => whnf))
    have : x = d.length := by omega
    subst this
    rw [List.drop_length] at h2
    exact RetG.q ⟨congrArg (AV.int .i64) h2, rfl⟩
end Ink.D

namespace Ink.D
open Go Go.Proofs
set_option maxRecDepth 100000
variable {E : Env} (hE : E.P = Tryz.prog)

def dropD (key : List UInt8) (d : List (List UInt8 × Ob)) : List (List UInt8 × Ob) := d.filter fun e => !decide (e.1 = key)

theorem dropD_append (key : List UInt8) (a b : List (List UInt8 × Ob)) : dropD key (a ++ b) = dropD key a ++ dropD key b := List.filter_append ..

theorem dropD_none {key : List UInt8} {d : List (List UInt8 × Ob)} (h : ∀ e ∈ d, e.1 ≠ key) : dropD key d = d := by
  unfold dropD
  rw [List.filter_eq_self]
  intro e he
  simp [h e he]

theorem dropD_le (key : List UInt8) (d : List (List UInt8 × Ob)) : (dropD key d).length ≤ d.length := List.length_filter_le ..

theorem ixK_cases (key : List UInt8) : ∀ (d : List (List UInt8 × Ob)) (i : Int), (ixK key d i = -1 ∧ (∀ e ∈ d, e.1 ≠ key)) ∨ ∃ p : Nat, ∃ h : p < d.length, ixK key d i = i + p ∧ d[p].1 = key ∧ ∀ e ∈ d.take p, e.1 ≠ key
  | [], i => .inl ⟨rfl, by simp⟩
  | e :: d, i => by
    by_cases he : e.1 = key
    · exact .inr ⟨0, by simp, by simp [ixK, he], by simpa using he, by simp⟩
    · rcases ixK_cases key d (i + 1) with ⟨h1, h2⟩ | ⟨p, hp, h1, h2, h3⟩
      · exact .inl ⟨by simp [ixK, he, h1], by simpa [he] using h2⟩
      · refine .inr ⟨p + 1, by simp; omega, by simp [ixK, he, h1]; omega, by simpa using h2, ?_⟩
        intro x hx
        rw [List.take_succ_cons] at hx
        rcases List.mem_cons.mp hx with rfl | hx
        · exact he
        · exact h3 x hx

theorem obE_7 (e : List UInt8 × Ob) : ∃ c0 c1 c2 c3 c4 c5 c6, obE e = [c0, c1, c2, c3, c4, c5, c6] := by
  obtain ⟨a, o⟩ := e; cases o; exact ⟨_, _, _, _, _, _, _, rfl⟩

def midD (key : List UInt8) (d : List (List UInt8 × Ob)) (j : Nat) : List (List UInt8 × Ob) := dropD key (d.take j) ++ d.drop (dropD key (d.take j)).length

theorem midD_len (key : List UInt8) (d : List (List UInt8 × Ob)) (j : Nat) : (midD key d j).length = d.length := by
  have h1 := dropD_le key (d.take j)
  have h2 : (d.take j).length ≤ d.length := by rw [List.length_take]; omega
  simp [midD]; omega

theorem takeD_len (key : List UInt8) (d : List (List UInt8 × Ob)) (j : Nat) : (dropD key (d.take j)).length ≤ j := by
  have h1 := dropD_le key (d.take j)
  rw [List.length_take] at h1; omega

theorem midD_get {key : List UInt8} {d : List (List UInt8 × Ob)} {j : Nat} (h : j < d.length) : ∃ h', (midD key d j)[j]'h' = d[j] := by
  refine ⟨by rw [midD_len]; exact h, ?_⟩
  have := takeD_len key d j
  unfold midD
  rw [List.getElem_append_right (by omega), List.getElem_drop]
  congr 1; omega

theorem midD_keep {key : List UInt8} {d : List (List UInt8 × Ob)} {j : Nat} (h : j < d.length) (hk : d[j].1 ≠ key) : (midD key d j).set (dropD key (d.take j)).length d[j] = midD key d (j + 1) ∧ (dropD key (d.take (j + 1))).length = (dropD key (d.take j)).length + 1 := by
  have h1 := takeD_len key d j
  have e : dropD key (d.take (j + 1)) = dropD key (d.take j) ++ [d[j]] := by
    rw [List.take_succ_eq_append_getElem h, dropD_append]
    congr 1
    simp [dropD, hk]
  unfold midD
  rw [e]
  refine ⟨?_, by simp⟩
  rw [List.set_append_right _ _ (Nat.le_refl _), Nat.sub_self, List.append_assoc, List.length_append]
  have hdr := List.drop_eq_getElem_cons (show (dropD key (d.take j)).length < d.length by omega)
  rw [hdr, List.set_cons_zero]
  rfl

theorem midD_skip {key : List UInt8} {d : List (List UInt8 × Ob)} {j : Nat} (h : j < d.length) (hk : d[j].1 = key) : midD key d (j + 1) = midD key d j ∧ (dropD key (d.take (j + 1))).length = (dropD key (d.take j)).length := by
  have e : dropD key (d.take (j + 1)) = dropD key (d.take j) := by
    rw [List.take_succ_eq_append_getElem h, dropD_append]
    simp [dropD, hk]
  unfold midD
  rw [e]
  exact ⟨rfl, rfl⟩

theorem cellsD_hb (n0 : Nat) (d : List (List UInt8 × Ob)) : hbL n0 (cellsD d) = true := by
  rw [hbL_iff]
  exact hbLL_flat (obD_hb d)

include hE
set_option maxHeartbeats 1000000 in
theorem deleteOwn (key : List UInt8) (d : List (List UInt8 × Ob)) (hd : d.length < big) (b0 b1 b3 b4 : Blk) (hb0 : hbB 6 b0 = true) (hb1 : hbB 6 b1 = true) (hb3 : hbB 6 b3 = true) (hb4 : hbB 6 b4 = true) :
    ACalls E 161 [.own 5 1 0 d.length 7, .fn (.func 163) [] [.ptr 2 0 0]] [b0, b1, ⟨0, true, .cells 9 [.str key]⟩, b3, b4, ⟨1, true, .cells 106 (cellsD d ++ [])⟩]
      fun r H' => ∃ Z, r = .own 5 1 0 (dropD key d).length 7 ∧ H' = [b0, b1, ⟨0, true, .cells 9 [.str key]⟩, b3, b4, ⟨1, true, .cells 106 (cellsD (dropD key d) ++ Z)⟩] := by
  have hI := indexOwn hE key d hd b0 b1 b3 b4
  unfold big at hd
  refine a161 hE ?_
  rcases ixK_cases key d 0 with ⟨h1, h2⟩ | ⟨p, hp, h1, h2, h3⟩
  · rw [h1] at hI
    conv => whnf
    repeat' (first
      | (refine And.intro W1 ?_; conv => whnf)
      | (refine brD (fun _ => ?_) (fun _ => ?_) <;> first | (exfalso; omega) | (conv => whnf))
      | (refine brB (fun _ => ?_) (fun _ => ?_) <;> conv => whnf)
      | (refine CallG.a (hI.mono fun r H' hq => ?_); obtain ⟨rfl, rfl⟩ := hq; conv => whnf))
    rw [dropD_none h2]
    exact RetG.q ⟨[], rfl, rfl⟩
  · rw [h1, Int.zero_add] at hI
    have hpl : (dropD key (d.take p)).length = p := by rw [dropD_none h3, List.length_take]; omega
    obtain ⟨m1, m2⟩ := midD_skip hp h2
    have m0 : midD key d (p + 1) = d := by rw [m1]; unfold midD; rw [hpl, dropD_none h3, List.take_append_drop]
    rw [hpl] at m2
    conv => whnf
    repeat' (first
      | (refine And.intro W1 ?_; conv => whnf)
      | (refine brD (fun _ => ?_) (fun _ => ?_) <;> first | (exfalso; omega) | (conv => whnf))
      | (refine brB (fun _ => ?_) (fun _ => ?_) <;> conv => whnf)
      | (refine CallG.a (hI.mono fun r H' hq => ?_); obtain ⟨rfl, rfl⟩ := hq; conv => whnf))
    refine LoopG.s (fun x : Nat => x ≤ d.length) 42 (fun x => [(0, .own 5 1 0 d.length 7), (1, .fn (.func 163) [] [.ptr 2 0 0]), (5, .int .i64 (dropD key (d.take x)).length), (6, .int .i64 x)]) (fun x => [b0, b1, ⟨0, true, .cells 9 [.str key]⟩, b3, b4, ⟨1, true, .cells 106 (cellsD (midD key d x) ++ [])⟩]) (fun x => d.length - x) (p + 1) (by omega) rfl ⟨rfl, rfl, by rw [m2]; rfl, rfl⟩ (by rw [m0]) ?_
    rintro x hx
    have hml := midD_len key d x
    have hil := takeD_len key d x
    have hcl : (cellsD (midD key d x) ++ []).length = d.length * 7 := by rw [List.append_nil, cellsD_length, hml]
    by_cases hlt : x < d.length
    · obtain ⟨hlt', hgx⟩ := midD_get (key := key) hlt
      have hg : ((cellsD (midD key d x) ++ []).drop (0 + (x : Int).toNat * 7)).take 7 = obE d[x] := by rw [Nat.zero_add, ← hgx]; exact cellsD_get _ [] hlt'
      have hg2 : 0 + (x : Int).toNat * 7 + 7 ≤ (cellsD (midD key d x) ++ []).length := by rw [hcl]; simp; omega
      have hp := isKeyB hE d[x] key
      have hh := obE_hb (n0 := 0) d[x]
      have hh6 := obE_hb (n0 := 6) d[x]
      have hset := cellsD_set (midD key d x) [] d[x] (k := (dropD key (d.take x)).length) (by omega)
      have hkeep := midD_keep (key := key) hlt
      have hskip := midD_skip (key := key) hlt
      have hset2 : (cellsD (midD key d x) ++ []).take (0 + ((dropD key (d.take x)).length : Int).toNat * 7) ++ (obE d[x] ++ (cellsD (midD key d x) ++ []).drop (0 + ((dropD key (d.take x)).length : Int).toNat * 7 + 7)) = cellsD ((midD key d x).set (dropD key (d.take x)).length d[x]) ++ [] := by rw [Nat.zero_add]; exact hset
      have hle : 0 + ((dropD key (d.take x)).length : Int).toNat * 7 + 7 ≤ (cellsD (midD key d x) ++ []).length := by rw [hcl]; simp; omega
      obtain ⟨c0, c1, c2, c3, c4, c5, c6, hc⟩ := obE_7 d[x]
      have hcs : (obE d[x]).length = 7 := obE_len _
      generalize d[x] = e at *
      rw [hc] at hg hp hh hh6 hset2 hcs
      conv => whnf
      repeat' (first
        | (refine And.intro W1 ?_; conv => whnf)
        | (refine brD (fun _ => ?_) (fun _ => ?_) <;> first | (exfalso; omega) | (conv => whnf))
        | (refine brB (fun _ => ?_) (fun _ => ?_) <;> conv => whnf)
        | (refine stepOk (load_n rfl rfl hg hg2) ?_; conv => whnf)
        | (refine CallG.b [(2, 0)] hp ⟨rfl, trivial⟩ ⟨.same _ hh, .ptr 0 2 0 0 rfl, trivial⟩ (fun r ks' hq _ _ => ?_); obtain ⟨rfl, rfl⟩ := hq; conv => whnf)
        | (refine stepOk (store_n rfl rfl rfl hcs hle hset2) ?_; conv => whnf))
      · rename_i hk
        obtain ⟨k1, k2⟩ := hkeep (by simpa using hk)
        refine ⟨x + 1, ⟨by omega, by omega⟩, ?_⟩
        rw [k2, ← k1]
        exact Wk.cut 6 rfl rfl rfl ⟨⟨_, rfl, .same _ rfl⟩, ⟨_, rfl, .same _ rfl⟩, ⟨_, rfl, .same _ rfl⟩, ⟨_, rfl, .same _ rfl⟩, trivial⟩ rfl (by simp [hbH, hb0, hb1, hb3, hb4]; simp [hbB, hbL, hb, cellsD_hb])
      · rename_i hk
        obtain ⟨k1, k2⟩ := hskip (by simpa using hk)
        refine ⟨x + 1, ⟨by omega, by omega⟩, ?_⟩
        rw [k2, k1]
        exact Wk.cut 6 rfl rfl rfl ⟨⟨_, rfl, .same _ rfl⟩, ⟨_, rfl, .same _ rfl⟩, ⟨_, rfl, .same _ rfl⟩, ⟨_, rfl, .same _ rfl⟩, trivial⟩ rfl (by simp [hbH, hb0, hb1, hb3, hb4]; simp [hbB, hbL, hb, cellsD_hb])
    · conv => whnf
      repeat' (first
        | (refine And.intro W1 ?_; conv => whnf)
        | (refine brD (fun _ => ?_) (fun _ => ?_) <;> first | (exfalso; omega) | (conv => whnf))
        | (refine brB (fun _ => ?_) (fun _ => ?_) <;> conv => whnf))
      obtain rfl : x = d.length := by omega
      have e1 : (0 + ((dropD key (d.take d.length)).length : Int).toNat * 7) = (dropD key d).length * 7 := by rw [List.take_length]; simp
      rw [e1]
      have e2 : (cellsD (midD key d d.length) ++ []).take ((dropD key d).length * 7) = cellsD (dropD key d) := by
        have := dropD_le key d
        rw [cellsD_take _ _ (by rw [hml]; omega)]
        unfold midD
        rw [List.take_length, List.take_left]
      rw [e2, List.take_length]
      exact RetG.q ⟨_, rfl, rfl⟩
end Ink.D

namespace Ink.D
open Go Go.Proofs
set_option maxRecDepth 100000
variable {E : Env} (hE : E.P = Tryz.prog)

def insD (k : Nat) (e : List UInt8 × Ob) (d : List (List UInt8 × Ob)) : List (List UInt8 × Ob) := d.take k ++ e :: d.drop k

theorem take_len {α : Type} {A B : List α} {n : Nat} (h : A.length = n) : (A ++ B).take n = A := by subst h; exact List.take_left
theorem drop_len {α : Type} {A B : List α} {n : Nat} (h : A.length = n) : (A ++ B).drop n = B := by subst h; exact List.drop_left

theorem insD_cells (k : Nat) (e : List UInt8 × Ob) (d : List (List UInt8 × Ob)) : cellsD (insD k e d) = cellsD (d.take k) ++ (obE e ++ cellsD (d.drop k)) := by
  rw [insD, cellsD_append, cellsD_cons]

theorem ins_grow {X Y Z R e7 : List AV} {k m : Nat} (hX : X.length = k * 7) (hY : Y.length = m * 7) (hR : R.length = (m + 1) * 7) (he : e7.length = 7) :
    ((X ++ R).take (k * 7) ++ (e7.take (1 * 7) ++ (X ++ R).drop (k * 7 + 1 * 7))).take ((k + 1) * 7) ++ (((X ++ (Y ++ Z)).drop (k * 7)).take (m * 7) ++ ((X ++ R).take (k * 7) ++ (e7.take (1 * 7) ++ (X ++ R).drop (k * 7 + 1 * 7))).drop ((k + 1) * 7 + m * 7)) = X ++ (e7 ++ Y) := by
  have hB : (X ++ R).take (k * 7) ++ (e7.take (1 * 7) ++ (X ++ R).drop (k * 7 + 1 * 7)) = (X ++ e7) ++ (X ++ R).drop (k * 7 + 1 * 7) := by
    rw [take_len hX, List.take_of_length_le (show e7.length ≤ 1 * 7 by omega), List.append_assoc]
  rw [hB, take_len (by rw [List.length_append]; omega), drop_len hX, take_len hY, List.drop_eq_nil_of_le (by simp only [List.length_append, List.length_drop]; omega)]
  simp

theorem ins_place {X Y Z e7 : List AV} {k m : Nat} (hX : X.length = k * 7) (hY : Y.length = m * 7) (hm : 0 < m) (he : e7.length = 7) :
    ∃ Z', ((X ++ (Y ++ Z)).take ((k + 1) * 7) ++ (((X ++ (Y ++ Z)).drop (k * 7)).take (m * 7) ++ (X ++ (Y ++ Z)).drop ((k + 1) * 7 + m * 7))).take (k * 7) ++
      (e7.take (1 * 7) ++ ((X ++ (Y ++ Z)).take ((k + 1) * 7) ++ (((X ++ (Y ++ Z)).drop (k * 7)).take (m * 7) ++ (X ++ (Y ++ Z)).drop ((k + 1) * 7 + m * 7))).drop (k * 7 + 1 * 7)) = X ++ (e7 ++ Y) ++ Z' := by
  have h1 : ((X ++ (Y ++ Z)).take ((k + 1) * 7)).length = (k + 1) * 7 := by simp [hX, hY]; omega
  refine ⟨(X ++ (Y ++ Z)).drop ((k + 1) * 7 + m * 7), ?_⟩
  rw [drop_len hX, take_len hY, List.take_of_length_le (show e7.length ≤ 1 * 7 by omega)]
  have e1 : k * 7 + 1 * 7 = (k + 1) * 7 := by omega
  rw [e1, drop_len h1, List.take_append_of_le_length (by rw [h1]; omega), List.take_take, Nat.min_eq_left (by omega), take_len hX]
  simp

include hE
theorem overD (j vj oj lj : Nat) (H : List Blk) (cj : List AV) (e : List UInt8 × Ob) (hj : liveCells H j vj = some (106, cj)) : ACalls E 227 [.imm 7 [obE e], .own j vj oj lj 7] H fun r H' => r = .bool false ∧ H' = H := by
  obtain ⟨c0, c1, c2, c3, c4, c5, c6, hc⟩ := obE_7 e
  rw [hc]
  have hf : E.P.funcs[227]? = some Tryz.f227 := by rw [hE]; exact Tryz.func227
  exact ACalls.overlapsI hf (by kernel_rfl) (by kernel_rfl) (by kernel_rfl) (tS := 24) (tR := 4) (e := 106) (by kernel_rfl) (by rw [hE]; kernel_rfl) (size := 7) (by rw [hE]; kernel_rfl) hj rfl (by decide)

set_option maxHeartbeats 1000000 in
theorem insertOwn (e : List UInt8 × Ob) (F : List (List UInt8 × Ob)) (Z : List AV) (k : Nat) (hk : k ≤ F.length) (hF : F.length < 100000000) (b0 b1 b2 b3 b4 : Blk) :
    ACalls E 164 [.own 5 1 0 F.length 7, .int .i64 k, .imm 7 [obE e]] [b0, b1, b2, b3, b4, ⟨1, true, .cells 106 (cellsD F ++ Z)⟩]
      fun r H' => (r = .own 5 2 0 (F.length + 1) 7 ∧ H' = [b0, b1, b2, b3, b4, ⟨2, true, .cells 106 (cellsD (insD k e F))⟩]) ∨
        (∃ Z', r = .own 5 1 0 (F.length + 1) 7 ∧ H' = [b0, b1, b2, b3, b4, ⟨1, true, .cells 106 (cellsD (insD k e F) ++ Z')⟩]) ∨
        (r = .own 6 0 0 (F.length + 1) 7 ∧ H' = [b0, b1, b2, b3, b4, ⟨1, true, .cells 106 (cellsD F ++ Z)⟩, ⟨0, true, .cells 106 (cellsD (insD k e F))⟩]) := by
  have hov := fun oj lj cj => overD hE 5 1 oj lj [b0, b1, b2, b3, b4, ⟨1, true, .cells 106 cj⟩] cj e rfl
  obtain ⟨c0, c1, c2, c3, c4, c5, c6, hc⟩ := obE_7 e
  have hFl := cellsD_length F
  rw [hc] at hov ⊢
  refine ACalls.capI rfl fun cap hcap hmx => ?_
  refine a164 hE ?_
  conv => whnf
  repeat' (first
    | (refine And.intro W1 ?_; conv => whnf)
    | (refine brD (fun _ => ?_) (fun _ => ?_) <;> first | (exfalso; omega) | (conv => whnf))
    | (refine brB (fun _ => ?_) (fun _ => ?_) <;> conv => whnf)
    | (refine CallG.a ((hov _ _ _).mono fun r H' hq => ?_); obtain ⟨rfl, rfl⟩ := hq; conv => whnf))
  · refine RetG.q (.inl ⟨rfl, ?_⟩)
    obtain rfl : k = F.length := by omega
    have : (cellsD F ++ Z).take (F.length * 7) = cellsD F := take_len hFl
    rw [List.drop_zero, this, insD_cells, List.take_length, List.drop_length, cellsD_nil, List.append_nil, hc]
    rfl
  · refine RetG.q (.inr (.inr ⟨?_, ?_⟩))
    · exact congrArg (fun z => AV.own 6 0 0 z 7) (by simp; omega)
    · have hn1 : F.length + 1 - k = (F.length - k) + 1 := by omega
      have a1 : ((F.length : Int) + ((1 : Nat) : Int) - (k : Int)).toNat = (F.length - k) + 1 := by omega
      have a2 : ((k : Int) + ((1 : Nat) : Int)).toNat = k + 1 := by omega
      have m1 : min 1 (k + ((F.length - k) + 1) - k) = 1 := by omega
      have m2 : min (F.length - k) (k + ((F.length - k) + 1) - (k + 1)) = F.length - k := by omega
      have hX : (cellsD (F.take k)).length = k * 7 := by rw [cellsD_length, List.length_take]; congr 1; omega
      have hY : (cellsD (F.drop k)).length = (F.length - k) * 7 := by rw [cellsD_length, List.length_drop]
      have hs : cellsD F ++ Z = cellsD (F.take k) ++ (cellsD (F.drop k) ++ Z) := by rw [← List.append_assoc, ← cellsD_append, List.take_append_drop]
      have hg := ins_grow (Z := Z) (R := repK (F.length - k + 1) [.str [], .int .i64 0, .int .i64 0, .int .i64 0, .str [], .lit (.slice none 0 0), .lit (.slice none 0 0)]) hX hY (by rw [repK_len]; rfl) (obE_len e)
      have ht : (cellsD (F.take k) ++ (cellsD (F.drop k) ++ Z)).take (k * 7) = cellsD (F.take k) := take_len hX
      simp only [List.length_cons, List.length_nil, Nat.zero_add, Int.toNat_natCast, List.drop_zero, List.flatten_cons, List.flatten_nil, List.append_nil, a1, a2, m1, m2, hs, ht]
      rw [hc] at hg
      rw [hg, insD_cells, hc]
  · refine RetG.c (.inr (.inl ?_))
    have a1 : ((F.length : Int) + ((1 : Nat) : Int)).toNat = F.length + 1 := by omega
    have a2 : ((k : Int) + ((1 : Nat) : Int)).toNat = k + 1 := by omega
    have m1 : min 1 (F.length + 1 - k) = 1 := by omega
    have m2 : min (F.length + 1 - k) (F.length + 1 - (k + 1)) = F.length - k := by omega
    have hX : (cellsD (F.take k)).length = k * 7 := by rw [cellsD_length, List.length_take]; congr 1; omega
    have hY : (cellsD (F.drop k)).length = (F.length - k) * 7 := by rw [cellsD_length, List.length_drop]
    have hs : cellsD F ++ Z = cellsD (F.take k) ++ (cellsD (F.drop k) ++ Z) := by rw [← List.append_assoc, ← cellsD_append, List.take_append_drop]
    obtain ⟨Z', hg⟩ := ins_place (Z := Z) hX hY (by omega) (obE_len e)
    refine ⟨Z', ?_, ?_⟩
    · simp only [List.length_cons, List.length_nil, Nat.zero_add, a1]
      rfl
    · simp only [List.length_cons, List.length_nil, Nat.zero_add, Int.toNat_natCast, List.drop_zero, List.flatten_cons, List.flatten_nil, List.append_nil, a1, a2, m1, m2, hs]
      rw [hc] at hg
      rw [hg, insD_cells, hc]
end Ink.D

namespace Ink.D
open Go Go.Proofs
set_option maxRecDepth 100000
variable {E : Env} (hE : E.P = Tryz.prog)

def Ob.kind : Ob → Int
  | .mk k _ _ _ _ _ => k

def setD (d : List (List UInt8 × Ob)) (key : List UInt8) (v : Ob) : List (List UInt8 × Ob) :=
  if v.kind = 0 then dropD key d
  else if ixK key d 0 < 0 then dropD key d ++ [(key, v)]
  else insD (ixK key d 0).toNat (key, v) (dropD key d)

def setL : Ob → List UInt8 → Ob → Ob
  | .mk k n f s l d, key, v => if k = 6 ∨ k = 8 then .mk k n f s l (setD d key v) else .mk k n f s l d

theorem obD_sz (d : List (List UInt8 × Ob)) : ∀ x ∈ obD d, x.length = 7 := by
  intro x hx
  rw [obD_map] at hx
  obtain ⟨e, _, rfl⟩ := List.mem_map.mp hx
  exact obE_len e

theorem obD_sc (d : List (List UInt8 × Ob)) : ∀ x ∈ (obD d).flatten, sc x = true := by
  intro x hx
  obtain ⟨y, hy, hx⟩ := List.mem_flatten.mp hx
  rw [obD_map] at hy
  obtain ⟨e, _, rfl⟩ := List.mem_map.mp hy
  obtain ⟨a, o⟩ := e
  rcases List.mem_cons.mp hx with rfl | hx
  · rfl
  · exact obC_sc o x hx

theorem pubD {H : List Blk} {n i ver : Nat} {X : List AV} (F : List (List UInt8 × Ob)) (hl : liveCells H i ver = some (106, cellsD F ++ X)) (hi : n ≤ i) : Pub H n (.own i ver 0 F.length 7) (.imm 7 (obD F)) := by
  refine .own i ver 0 F.length 7 106 _ _ hl hi (obD_length F) (obD_sz F) (obD_sc F) ?_ (fun j x y hx hy => ?_)
  · show 0 + (cellsD F).length ≤ _
    simp
  · have hx' : (cellsD F)[j]? = some x := hx
    rw [Nat.zero_add, List.getElem?_append_left (getElem?_lt hx'), hx'] at hy
    cases hy
    exact .same _ (hbL_iff.mp (cellsD_hb n F) x (List.mem_of_getElem? hx'))

theorem ixK_le (key : List UInt8) (d : List (List UInt8 × Ob)) (h : ¬ ixK key d 0 < 0) : (ixK key d 0).toNat ≤ (dropD key d).length ∧ ((ixK key d 0).toNat : Int) = ixK key d 0 := by
  rcases ixK_cases key d 0 with ⟨h1, _⟩ | ⟨p, hp, h1, h2, h3⟩
  · omega
  · rw [h1]
    refine ⟨?_, by omega⟩
    have e : dropD key d = dropD key (d.take p) ++ dropD key (d.drop p) := by rw [← dropD_append, List.take_append_drop]
    rw [e, dropD_none h3, List.length_append, List.length_take]
    omega

include hE
theorem placeE (a : Option Addr) (cap : Nat) (key : List UInt8) : PCalls E 160 [.lit (.slice a 0 cap), .str key] (· = .int .i64 (-1)) := by
  refine PCalls.split (· = [.imm 7 (obD []), .str key]) (fun c vs h => ⟨_, rfl, ?_⟩) (fun _ h => by subst h; exact place hE [] key (by unfold big; simp))
  match vs, h.len with
  | [u, v], _ =>
    obtain ⟨h1, h2⟩ := h.head
    refine LR.cons ?_ h2
    cases h1
    exact .immE 7 a cap

theorem dictE (a : Option Addr) (cap : Nat) (k n f : Int) (s : List UInt8) (l_ : List Ob) : PCalls E 159 [.agg [.int .i64 k, .int .i64 n, .int .i64 f, .str s, .imm 6 (obL l_), .lit (.slice a 0 cap)]] (· = .bool (decide (k = 6 ∨ k = 8))) := by
  refine PCalls.split (· = [.agg (obC (.mk k n f s l_ []))]) (fun c vs h => ⟨_, rfl, ?_⟩) (fun _ h => by subst h; exact dictionary hE k n f s l_ [])
  match vs, h.len with
  | [u], _ =>
    obtain ⟨h1, h2⟩ := h.head
    refine LR.cons ?_ h2
    obtain ⟨ws, rfl, h3, _⟩ := h1.aggI
    match ws, h3.len with
    | [w0, w1, w2, w3, w4, w5], _ =>
      obtain ⟨g0, h3⟩ := h3.head
      obtain ⟨g1, h3⟩ := h3.head
      obtain ⟨g2, h3⟩ := h3.head
      obtain ⟨g3, h3⟩ := h3.head
      obtain ⟨g4, h3⟩ := h3.head
      obtain ⟨g5, h3⟩ := h3.head
      refine LR.agg (LR.cons g0 (LR.cons g1 (LR.cons g2 (LR.cons g3 (LR.cons g4 (LR.cons ?_ (LR.nil c))))))) (obC_sc _)
      cases g5
      exact .immE 7 a cap

theorem cloneD (d : List (List UInt8 × Ob)) (h0 : d ≠ []) (hd : d.length < big) (b0 b1 b2 b3 b4 : Blk) :
    ACalls E 162 [.imm 7 (obD d)] [b0, b1, b2, b3, b4] fun r H' => r = .own 5 1 0 d.length 7 ∧ H' = [b0, b1, b2, b3, b4, ⟨1, true, .cells 106 (cellsD d ++ [])⟩] := by
  cases d with
  | nil => exact absurd rfl h0
  | cons e d =>
    refine (clone1 hE e d (by unfold big at hd; simp at hd; omega) b0 b1 b2 b3 b4).mono fun r H' h => ?_
    rw [List.append_nil]; exact h

set_option maxHeartbeats 2000000 in
theorem set_imm (k n f : Int) (s : List UInt8) (l_ : List Ob) (d : List (List UInt8 × Ob)) (key : List UInt8) (v : Ob) (h0 : d ≠ []) (hd : d.length < big) (hk : k = 6 ∨ k = 8) :
    PCalls E 106 [.agg (obC (.mk k n f s l_ d)), .str key, .agg (obC v)] (· = .agg (obC (setL (.mk k n f s l_ d) key v))) := by
  have hp := place hE d key hd
  have hdi := dictionary hE k n f s l_ d
  rw [decide_eq_true hk] at hdi
  have hcl := cloneD hE d h0 hd
  have hdel := deleteOwn hE key d hd
  have hins := fun Z k hk => insertOwn hE (key, v) (dropD key d) Z k hk (by have := dropD_le key d; unfold big at hd; omega)
  have hix := ixK_le key d
  have hL : ∀ n0, hbLL n0 (obL l_) = true := fun n0 => obL_hb l_
  have hD : ∀ n0, hbLL n0 (obD d) = true := fun n0 => obD_hb d
  have hvb : ∀ n0, hbL n0 (obC v) = true := fun n0 => obC_hb v
  have hFl := dropD_le key d
  refine p106 hE (fun l => ?_) (by simp [hbL, hb, obC_hb])
  have hse : setL (.mk k n f s l_ d) key v = .mk k n f s l_ (setD d key v) := by simp [setL, hk]
  rw [hse]
  unfold setD
  cases v with
  | mk vk vn vf vs vl vd =>
  unfold obC at hdi hvb ⊢
  unfold obE obC at hins
  unfold Ob.kind
  generalize hx : ixK key d 0 = x at *
  unfold big at hd
  have pub : ∀ (H : List Blk) (i ver : Nat) (X : List AV) (F : List (List UInt8 × Ob)), liveCells H i ver = some (106, cellsD F ++ X) → 1 ≤ i → Pub H 1 (.agg [.int .i64 k, .int .i64 n, .int .i64 f, .str s, .imm 6 (obL l_), .own i ver 0 F.length 7]) (.agg [.int .i64 k, .int .i64 n, .int .i64 f, .str s, .imm 6 (obL l_), .imm 7 (obD F)]) := by
    intro H i ver X F hl hi
    refine Pub.aggL ⟨.same _ rfl, .same _ rfl, .same _ rfl, .same _ rfl, .same _ (by simp [hb, hL]), pubD F hl hi, trivial⟩ (by simp [sc])
  have hFc := cellsD_length (dropD key d)
  by_cases hv0 : vk = 0
  · rw [if_pos hv0]
    conv => whnf
    repeat' (first
      | (refine And.intro W1 ?_; conv => whnf)
      | (refine brD (fun _ => ?_) (fun _ => ?_) <;> first | (exfalso; omega) | (conv => whnf))
      | (refine brB (fun _ => ?_) (fun _ => ?_) <;> conv => whnf)
      | ((first | refine CallG.e hdi ?_ | refine CallD.e hdi ?_ | refine CallQ.e hdi ?_); conv => whnf)
      | ((first | refine CallG.e hp ?_ | refine CallD.e hp ?_ | refine CallQ.e hp ?_); conv => whnf)
      | (refine CallG.a ((hcl _ _ _ _ _).mono fun r H' hq => ?_); obtain ⟨rfl, rfl⟩ := hq; conv => whnf)
      | (refine CallG.a ((hdel _ _ _ _ (by simp [newBlk, hbB, hbL, hb, hL, hD]) (by simp [newBlk, hbB, hbL, hb, hL, hD]) (by simp [newBlk, hbB, hbL, hb, hL, hD, obL_hb, obD_hb]) (by simp [newBlk, hbB, hbL, hb])).mono fun r H' hq => ?_); obtain ⟨Z, rfl, rfl⟩ := hq; conv => whnf))
    exact RetG.pub (r' := .agg [.int .i64 k, .int .i64 n, .int .i64 f, .str s, .imm 6 (obL l_), .imm 7 (obD (dropD key d))]) (H' := frm l) (pub _ 5 1 Z (dropD key d) rfl (by decide)) rfl rfl ⟨by simp [hb, hbL, obL_hb, obD_hb], rfl, rfl⟩
  · rw [if_neg hv0]
    by_cases hneg : x < 0
    · rw [if_pos hneg]
      conv => whnf
      repeat' (first
        | (refine And.intro W1 ?_; conv => whnf)
        | (refine brD (fun _ => ?_) (fun _ => ?_) <;> first | (exfalso; omega) | (conv => whnf))
        | (refine brB (fun _ => ?_) (fun _ => ?_) <;> conv => whnf)
        | ((first | refine CallG.e hdi ?_ | refine CallD.e hdi ?_ | refine CallQ.e hdi ?_); conv => whnf)
        | ((first | refine CallG.e hp ?_ | refine CallD.e hp ?_ | refine CallQ.e hp ?_); conv => whnf)
        | (refine CallG.a ((hcl _ _ _ _ _).mono fun r H' hq => ?_); obtain ⟨rfl, rfl⟩ := hq; conv => whnf)
        | (refine CallG.a ((hdel _ _ _ _ (by simp [newBlk, hbB, hbL, hb, hL, hD]) (by simp [newBlk, hbB, hbL, hb, hL, hD]) (by simp [newBlk, hbB, hbL, hb, hL, hD, obL_hb, obD_hb]) (by simp [newBlk, hbB, hbL, hb])).mono fun r H' hq => ?_); obtain ⟨Z, rfl, rfl⟩ := hq; conv => whnf))
      have e : (cellsD (dropD key d) ++ Z).take ((dropD key d).length * 7) = cellsD (dropD key d) := take_len (cellsD_length _)
      rw [List.drop_zero, e]
      have e2 : cellsD (dropD key d) ++ [[.str key, .int .i64 vk, .int .i64 vn, .int .i64 vf, .str vs, .imm 6 (obL vl), .imm 7 (obD vd)]].flatten = cellsD (dropD key d ++ [(key, .mk vk vn vf vs vl vd)]) ++ [] := by
        rw [cellsD_append, List.append_nil]; rfl
      rw [e2]
      have e3 : (dropD key d).length + [[AV.str key, .int .i64 vk, .int .i64 vn, .int .i64 vf, .str vs, .imm 6 (obL vl), .imm 7 (obD vd)]].length = (dropD key d ++ [(key, Ob.mk vk vn vf vs vl vd)]).length := by simp
      rw [e3]
      exact RetG.pub (r' := .agg [.int .i64 k, .int .i64 n, .int .i64 f, .str s, .imm 6 (obL l_), .imm 7 (obD (dropD key d ++ [(key, .mk vk vn vf vs vl vd)]))]) (H' := frm l) (pub _ 5 2 [] (dropD key d ++ [(key, .mk vk vn vf vs vl vd)]) rfl (by decide)) rfl rfl ⟨by simp [hb, hbL, obL_hb, obD_hb], rfl, rfl⟩
    · rw [if_neg hneg]
      obtain ⟨p, rfl⟩ : ∃ p : Nat, x = p := ⟨x.toNat, by omega⟩
      have hpl := (hix hneg).1
      simp only [Int.toNat_natCast] at hpl ⊢
      have hil : (insD p (key, Ob.mk vk vn vf vs vl vd) (dropD key d)).length = (dropD key d).length + 1 := by simp [insD]; omega
      conv => whnf
      repeat' (first
        | (refine And.intro W1 ?_; conv => whnf)
        | (refine brD (fun _ => ?_) (fun _ => ?_) <;> first | (exfalso; omega) | (conv => whnf))
        | (refine brB (fun _ => ?_) (fun _ => ?_) <;> conv => whnf)
        | ((first | refine CallG.e hdi ?_ | refine CallD.e hdi ?_ | refine CallQ.e hdi ?_); conv => whnf)
        | ((first | refine CallG.e hp ?_ | refine CallD.e hp ?_ | refine CallQ.e hp ?_); conv => whnf)
        | (refine CallG.a ((hcl _ _ _ _ _).mono fun r H' hq => ?_); obtain ⟨rfl, rfl⟩ := hq; conv => whnf)
        | (refine CallG.a ((hdel _ _ _ _ (by simp [newBlk, hbB, hbL, hb, hL, hD]) (by simp [newBlk, hbB, hbL, hb, hL, hD]) (by simp [newBlk, hbB, hbL, hb, hL, hD, obL_hb, obD_hb]) (by simp [newBlk, hbB, hbL, hb])).mono fun r H' hq => ?_); obtain ⟨Z, rfl, rfl⟩ := hq; conv => whnf)
        | (refine CallG.a ((hins _ p hpl _ _ _ _ _).mono fun r H' hq => ?_); rcases hq with ⟨rfl, rfl⟩ | ⟨Z', rfl, rfl⟩ | ⟨rfl, rfl⟩; conv => whnf))
      · rw [← hil, ← List.append_nil (cellsD (insD _ _ _))]
        exact RetG.pub (r' := .agg [.int .i64 k, .int .i64 n, .int .i64 f, .str s, .imm 6 (obL l_), .imm 7 (obD (insD p (key, .mk vk vn vf vs vl vd) (dropD key d)))]) (H' := frm l) (pub _ 5 2 [] (insD p (key, .mk vk vn vf vs vl vd) (dropD key d)) rfl (by decide)) rfl rfl ⟨by simp [hb, hbL, obL_hb, obD_hb], rfl, rfl⟩
      · rw [← hil]
        exact RetG.pub (r' := .agg [.int .i64 k, .int .i64 n, .int .i64 f, .str s, .imm 6 (obL l_), .imm 7 (obD (insD p (key, .mk vk vn vf vs vl vd) (dropD key d)))]) (H' := frm l) (pub _ 5 1 Z' (insD p (key, .mk vk vn vf vs vl vd) (dropD key d)) rfl (by decide)) rfl rfl ⟨by simp [hb, hbL, obL_hb, obD_hb], rfl, rfl⟩
      · rw [← hil, ← List.append_nil (cellsD (insD _ _ _))]
        exact RetG.pub (r' := .agg [.int .i64 k, .int .i64 n, .int .i64 f, .str s, .imm 6 (obL l_), .imm 7 (obD (insD p (key, .mk vk vn vf vs vl vd) (dropD key d)))]) (H' := frm l) (pub _ 6 0 [] (insD p (key, .mk vk vn vf vs vl vd) (dropD key d)) rfl (by decide)) rfl rfl ⟨by simp [hb, hbL, obL_hb, obD_hb], rfl, rfl⟩
end Ink.D

namespace Ink.D
open Go Go.Proofs
set_option maxRecDepth 100000
variable {E : Env} (hE : E.P = Tryz.prog)

include hE
theorem indexNil0 (H : List Blk) : ACalls E 225 [.lit (.slice none 0 0), .fn (.func 163) [] [.ptr 2 0 0]] H fun r H' => r = .int .i64 (-1) ∧ H' = H := by
  refine a225 hE ?_
  conv => whnf
  repeat' (first
    | (refine And.intro W1 ?_; conv => whnf)
    | (refine brD (fun _ => ?_) (fun _ => ?_) <;> first | (exfalso; omega) | (conv => whnf))
    | (refine brB (fun _ => ?_) (fun _ => ?_) <;> conv => whnf))
  refine LoopG.s (fun x : Nat => x = 0) 19 (fun x => [(0, .lit (.slice none 0 0)), (4, .int .i64 0), (7, .int .i64 0), (8, .int .i64 x)]) (fun _ => H) (fun x => 0) 0 rfl rfl ⟨rfl, rfl, rfl, rfl⟩ rfl ?_
  rintro x rfl
  conv => whnf
  repeat' (first
    | (refine And.intro W1 ?_; conv => whnf)
    | (refine brD (fun _ => ?_) (fun _ => ?_) <;> first | (exfalso; omega) | (conv => whnf))
    | (refine brB (fun _ => ?_) (fun _ => ?_) <;> conv => whnf))
  exact RetG.q ⟨rfl, rfl⟩

theorem deleteNil (H : List Blk) : ACalls E 161 [.lit (.slice none 0 0), .fn (.func 163) [] [.ptr 2 0 0]] H fun r H' => r = .lit (.slice none 0 0) ∧ H' = H := by
  have hI := indexNil0 hE H
  refine a161 hE ?_
  conv => whnf
  repeat' (first
    | (refine And.intro W1 ?_; conv => whnf)
    | (refine brD (fun _ => ?_) (fun _ => ?_) <;> first | (exfalso; omega) | (conv => whnf))
    | (refine brB (fun _ => ?_) (fun _ => ?_) <;> conv => whnf)
    | (refine CallG.a (hI.mono fun r H' hq => ?_); obtain ⟨rfl, rfl⟩ := hq; conv => whnf))
  exact RetG.q ⟨rfl, rfl⟩

set_option maxHeartbeats 2000000 in
theorem set_nil (cap : Nat) (k n f : Int) (s : List UInt8) (l_ : List Ob) (key : List UInt8) (v : Ob) (hk : k = 6 ∨ k = 8) :
    PCalls E 106 [.agg [.int .i64 k, .int .i64 n, .int .i64 f, .str s, .imm 6 (obL l_), .lit (.slice none 0 cap)], .str key, .agg (obC v)] (· = .agg (obC (.mk k n f s l_ (setD [] key v)))) := by
  have hp := placeE hE none cap key
  have hdi := dictE hE none cap k n f s l_
  rw [decide_eq_true hk] at hdi
  have hcl := clone0 hE cap
  have hdel := deleteNil hE
  have hL : ∀ n0, hbLL n0 (obL l_) = true := fun n0 => obL_hb l_
  have hvb : ∀ n0, hbL n0 (obC v) = true := fun n0 => obC_hb v
  refine p106 hE (fun l => ?_) (by simp [hbL, hb, obC_hb, hL])
  unfold setD
  cases v with
  | mk vk vn vf vs vl vd =>
  unfold obC at hvb ⊢
  unfold Ob.kind
  by_cases hv0 : vk = 0
  · rw [if_pos hv0]
    conv => whnf
    repeat' (first
      | (refine And.intro W1 ?_; conv => whnf)
      | (refine brD (fun _ => ?_) (fun _ => ?_) <;> first | (exfalso; omega) | (conv => whnf))
      | (refine brB (fun _ => ?_) (fun _ => ?_) <;> conv => whnf)
      | ((first | refine CallG.e hdi ?_ | refine CallD.e hdi ?_ | refine CallQ.e hdi ?_); conv => whnf)
      | ((first | refine CallG.e hp ?_ | refine CallD.e hp ?_ | refine CallQ.e hp ?_); conv => whnf)
      | (refine CallG.a ((hcl _).mono fun r H' hq => ?_); obtain ⟨rfl, rfl⟩ := hq; conv => whnf)
      | (refine CallG.a ((hdel _).mono fun r H' hq => ?_); obtain ⟨rfl, rfl⟩ := hq; conv => whnf))
    exact RetG.pub (r' := .agg [.int .i64 k, .int .i64 n, .int .i64 f, .str s, .imm 6 (obL l_), .imm 7 []]) (H' := frm l) (Pub.aggL ⟨.same _ rfl, .same _ rfl, .same _ rfl, .same _ rfl, .same _ (by simp [hb, hL]), .nil _ _, trivial⟩ (by simp [sc])) rfl rfl ⟨by simp [hb, hbL, hbLL, obL_hb, obD_hb], rfl, rfl⟩
  · rw [if_neg hv0, if_pos (show ixK key [] 0 < 0 by simp [ixK])]
    conv => whnf
    repeat' (first
      | (refine And.intro W1 ?_; conv => whnf)
      | (refine brD (fun _ => ?_) (fun _ => ?_) <;> first | (exfalso; omega) | (conv => whnf))
      | (refine brB (fun _ => ?_) (fun _ => ?_) <;> conv => whnf)
      | ((first | refine CallG.e hdi ?_ | refine CallD.e hdi ?_ | refine CallQ.e hdi ?_); conv => whnf)
      | ((first | refine CallG.e hp ?_ | refine CallD.e hp ?_ | refine CallQ.e hp ?_); conv => whnf)
      | (refine CallG.a ((hcl _).mono fun r H' hq => ?_); obtain ⟨rfl, rfl⟩ := hq; conv => whnf)
      | (refine CallG.a ((hdel _).mono fun r H' hq => ?_); obtain ⟨rfl, rfl⟩ := hq; conv => whnf))
    have e2 : [[AV.str key, .int .i64 vk, .int .i64 vn, .int .i64 vf, .str vs, .imm 6 (obL vl), .imm 7 (obD vd)]].flatten = cellsD [(key, .mk vk vn vf vs vl vd)] ++ [] := rfl
    rw [e2]
    exact RetG.pub (r' := .agg [.int .i64 k, .int .i64 n, .int .i64 f, .str s, .imm 6 (obL l_), .imm 7 (obD [(key, .mk vk vn vf vs vl vd)])]) (H' := frm l) (Pub.aggL ⟨.same _ rfl, .same _ rfl, .same _ rfl, .same _ rfl, .same _ (by simp [hb, hL]), pubD [(key, .mk vk vn vf vs vl vd)] rfl (show 1 ≤ 5 by decide), trivial⟩ (by simp [sc])) rfl rfl ⟨by simp [hb, hbL, obL_hb, obD_hb], rfl, rfl⟩

set_option maxHeartbeats 2000000 in
theorem set_lit (a : Addr) (cap : Nat) (k n f : Int) (s : List UInt8) (l_ : List Ob) (key : List UInt8) (v : Ob) (hk : k = 6 ∨ k = 8) :
    PCalls E 106 [.agg [.int .i64 k, .int .i64 n, .int .i64 f, .str s, .imm 6 (obL l_), .lit (.slice (some a) 0 cap)], .str key, .agg (obC v)] (· = .agg (obC (.mk k n f s l_ (setD [] key v)))) := by
  have hp := placeE hE (some a) cap key
  have hdi := dictE hE (some a) cap k n f s l_
  rw [decide_eq_true hk] at hdi
  have hcl := cloneE hE a cap
  have hdel := deleteOwn hE key [] (by unfold big; simp)
  have hdn : dropD key [] = [] := rfl
  simp only [hdn, List.length_nil] at hdel
  have hL : ∀ n0, hbLL n0 (obL l_) = true := fun n0 => obL_hb l_
  have hvb : ∀ n0, hbL n0 (obC v) = true := fun n0 => obC_hb v
  refine p106 hE (fun l => ?_) (by simp [hbL, hb, obC_hb, hL])
  unfold setD
  cases v with
  | mk vk vn vf vs vl vd =>
  unfold obC at hvb ⊢
  unfold Ob.kind
  by_cases hv0 : vk = 0
  · rw [if_pos hv0]
    conv => whnf
    repeat' (first
      | (refine And.intro W1 ?_; conv => whnf)
      | (refine brD (fun _ => ?_) (fun _ => ?_) <;> first | (exfalso; omega) | (conv => whnf))
      | (refine brB (fun _ => ?_) (fun _ => ?_) <;> conv => whnf)
      | ((first | refine CallG.e hdi ?_ | refine CallD.e hdi ?_ | refine CallQ.e hdi ?_); conv => whnf)
      | ((first | refine CallG.e hp ?_ | refine CallD.e hp ?_ | refine CallQ.e hp ?_); conv => whnf)
      | (refine CallG.a ((hcl _ _ _ _ _).mono fun r H' hq => ?_); obtain ⟨rfl, rfl⟩ := hq; conv => whnf)
      | (refine CallG.a ((hdel _ _ _ _ (by simp [newBlk, hbB, hbL, hb, hL]) (by simp [newBlk, hbB, hbL, hb, hL]) (by simp [newBlk, hbB, hbL, hb, hL, obL_hb, obD_hb]) (by simp [newBlk, hbB, hbL, hb])).mono fun r H' hq => ?_); obtain ⟨Z, rfl, rfl⟩ := hq; conv => whnf))
    exact RetG.pub (r' := .agg [.int .i64 k, .int .i64 n, .int .i64 f, .str s, .imm 6 (obL l_), .imm 7 (obD [])]) (H' := frm l) (Pub.aggL ⟨.same _ rfl, .same _ rfl, .same _ rfl, .same _ rfl, .same _ (by simp [hb, hL]), pubD (X := Z) [] rfl (show 1 ≤ 5 by decide), trivial⟩ (by simp [sc])) rfl rfl ⟨by simp [hb, hbL, hbLL, obL_hb, obD_hb], rfl, rfl⟩
  · rw [if_neg hv0, if_pos (show ixK key [] 0 < 0 by simp [ixK])]
    conv => whnf
    repeat' (first
      | (refine And.intro W1 ?_; conv => whnf)
      | (refine brD (fun _ => ?_) (fun _ => ?_) <;> first | (exfalso; omega) | (conv => whnf))
      | (refine brB (fun _ => ?_) (fun _ => ?_) <;> conv => whnf)
      | ((first | refine CallG.e hdi ?_ | refine CallD.e hdi ?_ | refine CallQ.e hdi ?_); conv => whnf)
      | ((first | refine CallG.e hp ?_ | refine CallD.e hp ?_ | refine CallQ.e hp ?_); conv => whnf)
      | (refine CallG.a ((hcl _ _ _ _ _).mono fun r H' hq => ?_); obtain ⟨rfl, rfl⟩ := hq; conv => whnf)
      | (refine CallG.a ((hdel _ _ _ _ (by simp [newBlk, hbB, hbL, hb, hL]) (by simp [newBlk, hbB, hbL, hb, hL]) (by simp [newBlk, hbB, hbL, hb, hL, obL_hb, obD_hb]) (by simp [newBlk, hbB, hbL, hb])).mono fun r H' hq => ?_); obtain ⟨Z, rfl, rfl⟩ := hq; conv => whnf))
    exact RetG.pub (r' := .agg [.int .i64 k, .int .i64 n, .int .i64 f, .str s, .imm 6 (obL l_), .imm 7 (obD [(key, .mk vk vn vf vs vl vd)])]) (H' := frm l) (Pub.aggL ⟨.same _ rfl, .same _ rfl, .same _ rfl, .same _ rfl, .same _ (by simp [hb, hL]), pubD (X := []) [(key, .mk vk vn vf vs vl vd)] rfl (show 1 ≤ 5 by decide), trivial⟩ (by simp [sc])) rfl rfl ⟨by simp [hb, hbL, obL_hb, obD_hb], rfl, rfl⟩

theorem set (o : Ob) (key : List UInt8) (v : Ob) (hd : ∀ k n f s l d, o = .mk k n f s l d → d.length < big) : PCalls E 106 [.agg (obC o), .str key, .agg (obC v)] (· = .agg (obC (setL o key v))) := by
  obtain ⟨k, n, f, s, l_, d⟩ := o
  by_cases hk : k = 6 ∨ k = 8
  · have hse : setL (.mk k n f s l_ d) key v = .mk k n f s l_ (setD d key v) := by simp [setL, hk]
    by_cases h0 : d = []
    · subst h0
      rw [hse]
      refine PCalls.split (fun args => ∃ a cap, args = [.agg [.int .i64 k, .int .i64 n, .int .i64 f, .str s, .imm 6 (obL l_), .lit (.slice a 0 cap)], .str key, .agg (obC v)]) (fun c vs h => ?_) (fun args h => ?_)
      · match vs, h.len with
        | [u0, u1, u2], _ =>
          obtain ⟨h1, h2⟩ := h.head
          obtain ⟨ws, rfl, h3, _⟩ := h1.aggI
          match ws, h3.len with
          | [w0, w1, w2, w3, w4, w5], _ =>
            obtain ⟨g0, h3⟩ := h3.head
            obtain ⟨g1, h3⟩ := h3.head
            obtain ⟨g2, h3⟩ := h3.head
            obtain ⟨g3, h3⟩ := h3.head
            obtain ⟨g4, h3⟩ := h3.head
            obtain ⟨g5, h3⟩ := h3.head
            obtain ⟨a, cap, rfl, hv⟩ := VR.imm0 g5
            exact ⟨_, ⟨a, cap, rfl⟩, LR.cons (LR.agg (LR.cons g0 (LR.cons g1 (LR.cons g2 (LR.cons g3 (LR.cons g4 (LR.cons hv (LR.nil c))))))) (by simp [sc, Value.oneCell'])) h2⟩
      · obtain ⟨a, cap, rfl⟩ := h
        cases a with
        | none => exact set_nil hE cap k n f s l_ key v hk
        | some a => exact set_lit hE a cap k n f s l_ key v hk
    · exact set_imm hE k n f s l_ d key v h0 (hd _ _ _ _ _ _ rfl) hk
  · have hse : setL (.mk k n f s l_ d) key v = .mk k n f s l_ d := by simp [setL, hk]
    rw [hse]
    have hdi := dictionary hE k n f s l_ d
    rw [decide_eq_false hk] at hdi
    have hL : ∀ n0, hbLL n0 (obL l_) = true := fun n0 => obL_hb l_
    have hD : ∀ n0, hbLL n0 (obD d) = true := fun n0 => obD_hb d
    refine p106 hE (fun l => ?_) (by simp [hbL, hb, obC_hb])
    unfold obC at hdi
    cases v with
    | mk vk vn vf vs vl vd =>
    simp only [obC]
    conv => whnf
    repeat' (first
      | (refine And.intro W1 ?_; conv => whnf)
      | (refine brD (fun _ => ?_) (fun _ => ?_) <;> first | (exfalso; omega) | (conv => whnf))
      | (refine brB (fun _ => ?_) (fun _ => ?_) <;> conv => whnf)
      | ((first | refine CallG.e hdi ?_ | refine CallD.e hdi ?_ | refine CallQ.e hdi ?_); conv => whnf))
    exact RetG.drop (by simp [hb, hbL, obL_hb, obD_hb]) rfl rfl ⟨by simp [hb, hbL, obL_hb, obD_hb], rfl, rfl⟩
end Ink.D
