import Derived.Test.YtogcalejbddjjaaGreatDoorPLexB
import Derived.Test.YtogcalejbddjjaaGreatDoorPCosA
import Derived.Test.YtogcalejbddjjaaGreatDoorPLexA
import Derived.Test.YtogcalejbddjjaaGreatDoorInkF
set_option linter.all false
namespace Ink.D
open Go Go.Proofs
set_option maxRecDepth 100000
variable {E : Env} (hE : E.P = Tryz.prog)

abbrev nilA : AV := .lit (.slice none 0 0)
abbrev ob00 : Ob := .mk 0 0 0 [] [] []

theorem pubOb {H : List Blk} {m : Nat} (k n f : Int) (s : List UInt8) : Pub H m (.agg [.int .i64 k, .int .i64 n, .int .i64 f, .str s, nilA, nilA]) (.agg (obC (.mk k n f s [] []))) := by
  refine Pub.aggL ?_ (obC_sc _)
  exact ⟨.same _ rfl, .same _ rfl, .same _ rfl, .same _ rfl, .nil _ _, .nil _ _, trivial⟩

def wholeT (t : Tok) : Bool := decide (t.kind = 1) && t.whole && decide (0 ≤ t.f)

def wordO (s : List UInt8) : Ob × Int :=
  if s = [116, 114, 117, 101] then (.mk 1 1 0 [] [] [], 0)
  else if s = [102, 97, 108, 115, 101] then (.mk 1 0 0 [] [] [], 0)
  else if s = [110, 117, 108, 108] then (ob00, 0)
  else (ob00, 3)

abbrev PK (s : List UInt8) (a d : Int) : BK := .cells 109 [.str s, .int .i64 a, .int .i64 d]

include hE
theorem whole133 (t : Tok) : PCalls E 229 [t.av] (· = .bool (wholeT t)) := by
  obtain ⟨k, f, s, w, a, b⟩ := t
  unfold Tok.av tk
  refine p229 hE (fun l => ?_)
  unfold wholeT
  cases w
  · conv => whnf
    repeat' (first
      | (refine And.intro W1 ?_; conv => whnf)
      | (refine brD (fun _ => ?_) (fun _ => ?_) <;> first | (exfalso; omega) | (conv => whnf))
      | (refine brB (fun _ => ?_) (fun _ => ?_) <;> conv => whnf))
    all_goals exact RetG.drop rfl rfl rfl ⟨rfl, by simp_all, rfl⟩
  · conv => whnf
    repeat' (first
      | (refine And.intro W1 ?_; conv => whnf)
      | (refine brD (fun _ => ?_) (fun _ => ?_) <;> first | (exfalso; omega) | (conv => whnf))
      | (refine brB (fun _ => ?_) (fun _ => ?_) <;> conv => whnf))
    all_goals exact RetG.drop rfl rfl rfl ⟨rfl, by simp_all, rfl⟩

theorem word112 (s : List UInt8) : PCalls E 174 [.str s] (· = .tup [.agg (obC (wordO s).1), .int .i64 (wordO s).2]) := by
  refine p174 hE (fun l => ?_)
  unfold wordO
  conv => whnf
  repeat' (first
    | (refine And.intro W1 ?_; conv => whnf)
    | (refine brD (fun _ => ?_) (fun _ => ?_) <;> first | (exfalso; omega) | (conv => whnf))
    | (refine brB (fun _ => ?_) (fun _ => ?_) <;> conv => whnf))
  · rw [if_pos (by assumption)]
    exact RetG.pub (Pub.tup2 (pubOb 1 1 0 []) (.same (.int .i64 0) rfl)) rfl rfl ⟨by simp [hb, hbL, obC_hb], rfl, rfl⟩
  · rw [if_neg (by assumption), if_pos (by assumption)]
    exact RetG.pub (Pub.tup2 (pubOb 1 0 0 []) (.same (.int .i64 0) rfl)) rfl rfl ⟨by simp [hb, hbL, obC_hb], rfl, rfl⟩
  · rw [if_neg (by assumption), if_neg (by assumption), if_pos (by assumption)]
    exact RetG.pub (Pub.tup2 (pubOb 0 0 0 []) (.same (.int .i64 0) rfl)) rfl rfl ⟨by simp [hb, hbL, obC_hb], rfl, rfl⟩
  · rw [if_neg (by assumption), if_neg (by assumption), if_neg (by assumption)]
    exact RetG.pub (Pub.tup2 (pubOb 0 0 0 []) (.same (.int .i64 3) rfl)) rfl rfl ⟨by simp [hb, hbL, obC_hb], rfl, rfl⟩

theorem word108 (s : List UInt8) : PCalls E 170 [.str s] (· = .agg (obC (.mk 3 0 0 s [] []))) := by
  refine p170 hE (fun l => ?_)
  conv => whnf
  repeat' (first
    | (refine And.intro W1 ?_; conv => whnf)
    | (refine brD (fun _ => ?_) (fun _ => ?_) <;> first | (exfalso; omega) | (conv => whnf))
    | (refine brB (fun _ => ?_) (fun _ => ?_) <;> conv => whnf))
  exact RetG.pub (pubOb 3 0 0 s) rfl rfl ⟨by simp [hb, hbL, obC_hb], rfl, rfl⟩

theorem next78 (s : List UInt8) (a d : Int) (hs : s.length < 1000000) : BCalls E 115 [.ptr 1 0 0] [PK s a d] fun r ks => r = tokAV (nextL s a) ∧ ks = [PK s (if (nextL s a).2 = 0 then ((nextL s a).1.to : Int) else a) d] := by
  have hN := next hE s a hs
  refine b115 hE fun l => ?_
  generalize nextL s a = x at *
  obtain ⟨⟨k, f, ts, w, fr, t9⟩, e⟩ := x
  unfold tokAV tkE Tok.av tk at *
  conv => whnf
  repeat' (first
    | (refine And.intro W1 ?_; conv => whnf)
    | (refine brD (fun _ => ?_) (fun _ => ?_) <;> first | (exfalso; omega) | (conv => whnf))
    | (refine brB (fun _ => ?_) (fun _ => ?_) <;> conv => whnf)
    | ((first | refine CallG.e hN ?_ | refine CallD.e hN ?_ | refine CallQ.e hN ?_ | refine CallP.e hN ?_); conv => whnf))
  · rename_i he
    exact RetG.drop rfl rfl rfl ⟨rfl, [PK s t9 d], rfl, rfl, rfl, rfl, by rw [if_pos he]⟩
  · rename_i he
    exact RetG.drop rfl rfl rfl ⟨rfl, [PK s a d], rfl, rfl, rfl, rfl, by rw [if_neg he]⟩

omit hE in
def numO (s : List UInt8) (t : Tok) (a : Int) : Ob × Int :=
  if wholeT t = true ∧ (nextL s a).2 = 0 ∧ wholeT (nextL s a).1 = true ∧ (nextL s (nextL s a).1.to).2 = 0 ∧ (nextL s (nextL s a).1.to).1.kind = 8 ∧ (nextL s (nextL s a).1.to).1.s = [82] then
    (.mk 7 (t.f.tdiv 1000) (nextL s a).1.f [] [] [], (nextL s (nextL s a).1.to).1.to)
  else (.mk 2 (if t.whole then 1 else 0) t.f [] [] [], a)

theorem number107 (s : List UInt8) (t : Tok) (a d : Int) (hs : s.length < 1000000) : BCalls E 169 [.ptr 1 0 0, t.av] [PK s a d] fun r ks => r = .agg (obC (numO s t a).1) ∧ ks = [PK s (numO s t a).2 d] := by
  refine BCalls.have (φ := inI64 t.f) (fun c vs h => h.ikA 1 1 rfl rfl) fun hf => ?_
  have hn1 := next78 hE s a d hs
  have hn2 := next78 hE s (nextL s a).1.to d hs
  have hw1 := whole133 hE t
  have hw2 := whole133 hE (nextL s a).1
  refine b169 hE fun l => ?_
  unfold numO
  have hq : 0 ≤ t.f → inI64 (t.f.tdiv 1000) := fun h0 => by
    rw [Int.tdiv_eq_ediv_of_nonneg h0]
    unfold inI64 at hf ⊢
    omega
  have hwf : wholeT t = true → 0 ≤ t.f := fun h => by unfold wholeT at h; simp at h; exact h.2
  generalize nextL s a = x at *
  obtain ⟨⟨xk, xf, xs, xw, xfr, xto⟩, xe⟩ := x
  generalize nextL s ((⟨xk, xf, xs, xw, xfr, xto⟩, xe) : Tok × Int).1.to = y at *
  obtain ⟨⟨yk, yf, ys, yw, yfr, yto⟩, ye⟩ := y
  simp only at *
  generalize hwx : wholeT ⟨xk, xf, xs, xw, xfr, xto⟩ = wx at *
  generalize hwt : wholeT t = wt at *
  obtain ⟨tk_, tf, ts, tw, tfr, tto⟩ := t
  unfold tokAV tkE Tok.av tk at *
  simp only at *
  cases tw
  · -- false
    cases wt
    · rw [if_neg (by simp)]
      conv => whnf
      repeat' (first
        | (refine And.intro W1 ?_; conv => whnf)
        | (refine brD (fun _ => ?_) (fun _ => ?_) <;> first | (exfalso; omega) | (conv => whnf))
        | (refine brB (fun _ => ?_) (fun _ => ?_) <;> conv => whnf)
        | ((first | refine CallG.e hw1 ?_ | refine CallD.e hw1 ?_ | refine CallQ.e hw1 ?_ | refine CallP.e hw1 ?_); conv => whnf)
        | (refine CallG.b [(5, 0)] hn1 ⟨rfl, trivial⟩ ⟨.ptr 0 5 0 0 rfl, trivial⟩ (fun r ks' hq _ _ => ?_); obtain ⟨rfl, rfl⟩ := hq; conv => whnf))
      exact RetG.pub (r' := .agg (obC (.mk 2 0 tf [] [] []))) (H' := frmB l [PK s a d]) (pubOb 2 0 tf []) rfl rfl ⟨by simp [hb, hbL, obC_hb], [PK s a d], rfl, rfl, rfl, rfl, rfl⟩
    · by_cases he : xe = 0
      · subst he
        simp only [if_true] at hn1
        cases wx
        · rw [if_neg (by simp)]
          conv => whnf
          repeat' (first
            | (refine And.intro W1 ?_; conv => whnf)
            | (refine brD (fun _ => ?_) (fun _ => ?_) <;> first | (exfalso; omega) | (conv => whnf))
            | (refine brB (fun _ => ?_) (fun _ => ?_) <;> conv => whnf)
            | ((first | refine CallG.e hw1 ?_ | refine CallD.e hw1 ?_ | refine CallQ.e hw1 ?_ | refine CallP.e hw1 ?_); conv => whnf)
            | ((first | refine CallG.e hw2 ?_ | refine CallD.e hw2 ?_ | refine CallQ.e hw2 ?_ | refine CallP.e hw2 ?_); conv => whnf)
            | (refine CallG.b [(5, 0)] hn1 ⟨rfl, trivial⟩ ⟨.ptr 0 5 0 0 rfl, trivial⟩ (fun r ks' hq _ _ => ?_); obtain ⟨rfl, rfl⟩ := hq; conv => whnf))
          exact RetG.pub (r' := .agg (obC (.mk 2 0 tf [] [] []))) (H' := frmB l [PK s a d]) (pubOb 2 0 tf []) rfl rfl ⟨by simp [hb, hbL, obC_hb], [PK s a d], rfl, rfl, rfl, rfl, rfl⟩
        · by_cases hy : ye = 0
          · subst hy
            simp only [if_true] at hn2
            by_cases hk : yk = 8 ∧ ys = [82]
            · rw [if_pos ⟨rfl, rfl, rfl, rfl, hk.1, hk.2⟩]
              obtain ⟨rfl, rfl⟩ := hk
              have hq := hq (hwf rfl)
              conv => whnf
              repeat' (first
                | (refine And.intro W1 ?_; conv => whnf)
                | (refine brD (fun _ => ?_) (fun _ => ?_) <;> first | (exfalso; omega) | (conv => whnf))
                | (refine brB (fun _ => ?_) (fun _ => ?_) <;> conv => whnf)
                | ((first | refine CallG.e hw1 ?_ | refine CallD.e hw1 ?_ | refine CallQ.e hw1 ?_ | refine CallP.e hw1 ?_); conv => whnf)
                | ((first | refine CallG.e hw2 ?_ | refine CallD.e hw2 ?_ | refine CallQ.e hw2 ?_ | refine CallP.e hw2 ?_); conv => whnf)
                | (refine CallG.b [(5, 0)] hn1 ⟨rfl, trivial⟩ ⟨.ptr 0 5 0 0 rfl, trivial⟩ (fun r ks' hq _ _ => ?_); obtain ⟨rfl, rfl⟩ := hq; conv => whnf)
                | (refine CallG.b [(5, 0)] hn2 ⟨rfl, trivial⟩ ⟨.ptr 0 5 0 0 rfl, trivial⟩ (fun r ks' hq _ _ => ?_); obtain ⟨rfl, rfl⟩ := hq; conv => whnf)
                | (refine And.intro ⟨by decide, hq⟩ ?_; conv => whnf))
              all_goals first | contradiction | exact RetG.pub (r' := .agg (obC (.mk 7 (tf.tdiv 1000) xf [] [] []))) (H' := frmB l [PK s yto d]) (pubOb 7 (tf.tdiv 1000) xf []) rfl rfl ⟨by simp [hb, hbL, obC_hb], [PK s yto d], rfl, rfl, rfl, rfl, rfl⟩
            · rw [if_neg (fun h => hk ⟨h.2.2.2.2.1, h.2.2.2.2.2⟩)]
              conv => whnf
              repeat' (first
                | (refine And.intro W1 ?_; conv => whnf)
                | (refine brD (fun _ => ?_) (fun _ => ?_) <;> first | (exfalso; omega) | (conv => whnf))
                | (refine brB (fun _ => ?_) (fun _ => ?_) <;> conv => whnf)
                | ((first | refine CallG.e hw1 ?_ | refine CallD.e hw1 ?_ | refine CallQ.e hw1 ?_ | refine CallP.e hw1 ?_); conv => whnf)
                | ((first | refine CallG.e hw2 ?_ | refine CallD.e hw2 ?_ | refine CallQ.e hw2 ?_ | refine CallP.e hw2 ?_); conv => whnf)
                | (refine CallG.b [(5, 0)] hn1 ⟨rfl, trivial⟩ ⟨.ptr 0 5 0 0 rfl, trivial⟩ (fun r ks' hq _ _ => ?_); obtain ⟨rfl, rfl⟩ := hq; conv => whnf)
                | (refine CallG.b [(5, 0)] hn2 ⟨rfl, trivial⟩ ⟨.ptr 0 5 0 0 rfl, trivial⟩ (fun r ks' hq _ _ => ?_); obtain ⟨rfl, rfl⟩ := hq; conv => whnf))
              all_goals first | exact RetG.pub (r' := .agg (obC (.mk 2 0 tf [] [] []))) (H' := frmB l [PK s a d]) (pubOb 2 0 tf []) rfl rfl ⟨by simp [hb, hbL, obC_hb], [PK s a d], rfl, rfl, rfl, rfl, rfl⟩ | (exfalso; apply hk; exact ⟨by simp_all, by simp_all⟩)
          · rw [if_neg (fun h => hy h.2.2.2.1)]
            simp only [if_neg hy] at hn2
            conv => whnf
            repeat' (first
              | (refine And.intro W1 ?_; conv => whnf)
              | (refine brD (fun _ => ?_) (fun _ => ?_) <;> first | (exfalso; omega) | (conv => whnf))
              | (refine brB (fun _ => ?_) (fun _ => ?_) <;> conv => whnf)
              | ((first | refine CallG.e hw1 ?_ | refine CallD.e hw1 ?_ | refine CallQ.e hw1 ?_ | refine CallP.e hw1 ?_); conv => whnf)
              | ((first | refine CallG.e hw2 ?_ | refine CallD.e hw2 ?_ | refine CallQ.e hw2 ?_ | refine CallP.e hw2 ?_); conv => whnf)
              | (refine CallG.b [(5, 0)] hn1 ⟨rfl, trivial⟩ ⟨.ptr 0 5 0 0 rfl, trivial⟩ (fun r ks' hq _ _ => ?_); obtain ⟨rfl, rfl⟩ := hq; conv => whnf)
              | (refine CallG.b [(5, 0)] hn2 ⟨rfl, trivial⟩ ⟨.ptr 0 5 0 0 rfl, trivial⟩ (fun r ks' hq _ _ => ?_); obtain ⟨rfl, rfl⟩ := hq; conv => whnf))
            all_goals first | (exfalso; omega) | exact RetG.pub (r' := .agg (obC (.mk 2 0 tf [] [] []))) (H' := frmB l [PK s a d]) (pubOb 2 0 tf []) rfl rfl ⟨by simp [hb, hbL, obC_hb], [PK s a d], rfl, rfl, rfl, rfl, rfl⟩
      · rw [if_neg (fun h => he h.2.1)]
        simp only [if_neg he] at hn1
        conv => whnf
        repeat' (first
          | (refine And.intro W1 ?_; conv => whnf)
          | (refine brD (fun _ => ?_) (fun _ => ?_) <;> first | (exfalso; omega) | (conv => whnf))
          | (refine brB (fun _ => ?_) (fun _ => ?_) <;> conv => whnf)
          | ((first | refine CallG.e hw1 ?_ | refine CallD.e hw1 ?_ | refine CallQ.e hw1 ?_ | refine CallP.e hw1 ?_); conv => whnf)
          | (refine CallG.b [(5, 0)] hn1 ⟨rfl, trivial⟩ ⟨.ptr 0 5 0 0 rfl, trivial⟩ (fun r ks' hq _ _ => ?_); obtain ⟨rfl, rfl⟩ := hq; conv => whnf))
        all_goals first | (exfalso; omega) | exact RetG.pub (r' := .agg (obC (.mk 2 0 tf [] [] []))) (H' := frmB l [PK s a d]) (pubOb 2 0 tf []) rfl rfl ⟨by simp [hb, hbL, obC_hb], [PK s a d], rfl, rfl, rfl, rfl, rfl⟩
  · -- true
    cases wt
    · rw [if_neg (by simp)]
      conv => whnf
      repeat' (first
        | (refine And.intro W1 ?_; conv => whnf)
        | (refine brD (fun _ => ?_) (fun _ => ?_) <;> first | (exfalso; omega) | (conv => whnf))
        | (refine brB (fun _ => ?_) (fun _ => ?_) <;> conv => whnf)
        | ((first | refine CallG.e hw1 ?_ | refine CallD.e hw1 ?_ | refine CallQ.e hw1 ?_ | refine CallP.e hw1 ?_); conv => whnf)
        | (refine CallG.b [(5, 0)] hn1 ⟨rfl, trivial⟩ ⟨.ptr 0 5 0 0 rfl, trivial⟩ (fun r ks' hq _ _ => ?_); obtain ⟨rfl, rfl⟩ := hq; conv => whnf))
      exact RetG.pub (r' := .agg (obC (.mk 2 1 tf [] [] []))) (H' := frmB l [PK s a d]) (pubOb 2 1 tf []) rfl rfl ⟨by simp [hb, hbL, obC_hb], [PK s a d], rfl, rfl, rfl, rfl, rfl⟩
    · by_cases he : xe = 0
      · subst he
        simp only [if_true] at hn1
        cases wx
        · rw [if_neg (by simp)]
          conv => whnf
          repeat' (first
            | (refine And.intro W1 ?_; conv => whnf)
            | (refine brD (fun _ => ?_) (fun _ => ?_) <;> first | (exfalso; omega) | (conv => whnf))
            | (refine brB (fun _ => ?_) (fun _ => ?_) <;> conv => whnf)
            | ((first | refine CallG.e hw1 ?_ | refine CallD.e hw1 ?_ | refine CallQ.e hw1 ?_ | refine CallP.e hw1 ?_); conv => whnf)
            | ((first | refine CallG.e hw2 ?_ | refine CallD.e hw2 ?_ | refine CallQ.e hw2 ?_ | refine CallP.e hw2 ?_); conv => whnf)
            | (refine CallG.b [(5, 0)] hn1 ⟨rfl, trivial⟩ ⟨.ptr 0 5 0 0 rfl, trivial⟩ (fun r ks' hq _ _ => ?_); obtain ⟨rfl, rfl⟩ := hq; conv => whnf))
          exact RetG.pub (r' := .agg (obC (.mk 2 1 tf [] [] []))) (H' := frmB l [PK s a d]) (pubOb 2 1 tf []) rfl rfl ⟨by simp [hb, hbL, obC_hb], [PK s a d], rfl, rfl, rfl, rfl, rfl⟩
        · by_cases hy : ye = 0
          · subst hy
            simp only [if_true] at hn2
            by_cases hk : yk = 8 ∧ ys = [82]
            · rw [if_pos ⟨rfl, rfl, rfl, rfl, hk.1, hk.2⟩]
              obtain ⟨rfl, rfl⟩ := hk
              have hq := hq (hwf rfl)
              conv => whnf
              repeat' (first
                | (refine And.intro W1 ?_; conv => whnf)
                | (refine brD (fun _ => ?_) (fun _ => ?_) <;> first | (exfalso; omega) | (conv => whnf))
                | (refine brB (fun _ => ?_) (fun _ => ?_) <;> conv => whnf)
                | ((first | refine CallG.e hw1 ?_ | refine CallD.e hw1 ?_ | refine CallQ.e hw1 ?_ | refine CallP.e hw1 ?_); conv => whnf)
                | ((first | refine CallG.e hw2 ?_ | refine CallD.e hw2 ?_ | refine CallQ.e hw2 ?_ | refine CallP.e hw2 ?_); conv => whnf)
                | (refine CallG.b [(5, 0)] hn1 ⟨rfl, trivial⟩ ⟨.ptr 0 5 0 0 rfl, trivial⟩ (fun r ks' hq _ _ => ?_); obtain ⟨rfl, rfl⟩ := hq; conv => whnf)
                | (refine CallG.b [(5, 0)] hn2 ⟨rfl, trivial⟩ ⟨.ptr 0 5 0 0 rfl, trivial⟩ (fun r ks' hq _ _ => ?_); obtain ⟨rfl, rfl⟩ := hq; conv => whnf)
                | (refine And.intro ⟨by decide, hq⟩ ?_; conv => whnf))
              all_goals first | contradiction | exact RetG.pub (r' := .agg (obC (.mk 7 (tf.tdiv 1000) xf [] [] []))) (H' := frmB l [PK s yto d]) (pubOb 7 (tf.tdiv 1000) xf []) rfl rfl ⟨by simp [hb, hbL, obC_hb], [PK s yto d], rfl, rfl, rfl, rfl, rfl⟩
            · rw [if_neg (fun h => hk ⟨h.2.2.2.2.1, h.2.2.2.2.2⟩)]
              conv => whnf
              repeat' (first
                | (refine And.intro W1 ?_; conv => whnf)
                | (refine brD (fun _ => ?_) (fun _ => ?_) <;> first | (exfalso; omega) | (conv => whnf))
                | (refine brB (fun _ => ?_) (fun _ => ?_) <;> conv => whnf)
                | ((first | refine CallG.e hw1 ?_ | refine CallD.e hw1 ?_ | refine CallQ.e hw1 ?_ | refine CallP.e hw1 ?_); conv => whnf)
                | ((first | refine CallG.e hw2 ?_ | refine CallD.e hw2 ?_ | refine CallQ.e hw2 ?_ | refine CallP.e hw2 ?_); conv => whnf)
                | (refine CallG.b [(5, 0)] hn1 ⟨rfl, trivial⟩ ⟨.ptr 0 5 0 0 rfl, trivial⟩ (fun r ks' hq _ _ => ?_); obtain ⟨rfl, rfl⟩ := hq; conv => whnf)
                | (refine CallG.b [(5, 0)] hn2 ⟨rfl, trivial⟩ ⟨.ptr 0 5 0 0 rfl, trivial⟩ (fun r ks' hq _ _ => ?_); obtain ⟨rfl, rfl⟩ := hq; conv => whnf))
              all_goals first | exact RetG.pub (r' := .agg (obC (.mk 2 1 tf [] [] []))) (H' := frmB l [PK s a d]) (pubOb 2 1 tf []) rfl rfl ⟨by simp [hb, hbL, obC_hb], [PK s a d], rfl, rfl, rfl, rfl, rfl⟩ | (exfalso; apply hk; exact ⟨by simp_all, by simp_all⟩)
          · rw [if_neg (fun h => hy h.2.2.2.1)]
            simp only [if_neg hy] at hn2
            conv => whnf
            repeat' (first
              | (refine And.intro W1 ?_; conv => whnf)
              | (refine brD (fun _ => ?_) (fun _ => ?_) <;> first | (exfalso; omega) | (conv => whnf))
              | (refine brB (fun _ => ?_) (fun _ => ?_) <;> conv => whnf)
              | ((first | refine CallG.e hw1 ?_ | refine CallD.e hw1 ?_ | refine CallQ.e hw1 ?_ | refine CallP.e hw1 ?_); conv => whnf)
              | ((first | refine CallG.e hw2 ?_ | refine CallD.e hw2 ?_ | refine CallQ.e hw2 ?_ | refine CallP.e hw2 ?_); conv => whnf)
              | (refine CallG.b [(5, 0)] hn1 ⟨rfl, trivial⟩ ⟨.ptr 0 5 0 0 rfl, trivial⟩ (fun r ks' hq _ _ => ?_); obtain ⟨rfl, rfl⟩ := hq; conv => whnf)
              | (refine CallG.b [(5, 0)] hn2 ⟨rfl, trivial⟩ ⟨.ptr 0 5 0 0 rfl, trivial⟩ (fun r ks' hq _ _ => ?_); obtain ⟨rfl, rfl⟩ := hq; conv => whnf))
            all_goals first | (exfalso; omega) | exact RetG.pub (r' := .agg (obC (.mk 2 1 tf [] [] []))) (H' := frmB l [PK s a d]) (pubOb 2 1 tf []) rfl rfl ⟨by simp [hb, hbL, obC_hb], [PK s a d], rfl, rfl, rfl, rfl, rfl⟩
      · rw [if_neg (fun h => he h.2.1)]
        simp only [if_neg he] at hn1
        conv => whnf
        repeat' (first
          | (refine And.intro W1 ?_; conv => whnf)
          | (refine brD (fun _ => ?_) (fun _ => ?_) <;> first | (exfalso; omega) | (conv => whnf))
          | (refine brB (fun _ => ?_) (fun _ => ?_) <;> conv => whnf)
          | ((first | refine CallG.e hw1 ?_ | refine CallD.e hw1 ?_ | refine CallQ.e hw1 ?_ | refine CallP.e hw1 ?_); conv => whnf)
          | (refine CallG.b [(5, 0)] hn1 ⟨rfl, trivial⟩ ⟨.ptr 0 5 0 0 rfl, trivial⟩ (fun r ks' hq _ _ => ?_); obtain ⟨rfl, rfl⟩ := hq; conv => whnf))
        all_goals first | (exfalso; omega) | exact RetG.pub (r' := .agg (obC (.mk 2 1 tf [] [] []))) (H' := frmB l [PK s a d]) (pubOb 2 1 tf []) rfl rfl ⟨by simp [hb, hbL, obC_hb], [PK s a d], rfl, rfl, rfl, rfl, rfl⟩
end Ink.D

namespace Ink.D
open Go Go.Proofs
set_option maxRecDepth 100000
variable {E : Env} (hE : E.P = Tryz.prog)

abbrev PR := Ob × Int × Int

def arrL (ofr : Tok → Int → PR) (s : List UInt8) : Nat → Int → List Ob → PR
  | 0, a, _ => (ob00, a, 6)
  | n + 1, a, acc =>
    if (nextL s a).2 ≠ 0 then (ob00, a, (nextL s a).2)
    else if (nextL s a).1.kind = 5 then (.mk 5 0 0 [] acc [], (nextL s a).1.to, 0)
    else if (nextL s a).1.kind ≠ 0 ∧ acc.length = 1024 then (ob00, (nextL s a).1.to, 6)
    else if (ofr (nextL s a).1 (nextL s a).1.to).2.2 ≠ 0 then (ob00, (ofr (nextL s a).1 (nextL s a).1.to).2.1, (ofr (nextL s a).1 (nextL s a).1.to).2.2)
    else arrL ofr s n (ofr (nextL s a).1 (nextL s a).1.to).2.1 (acc ++ [(ofr (nextL s a).1 (nextL s a).1.to).1])

def objR (ofr : Tok → Int → PR) (s : List UInt8) (a : Int) : PR :=
  if (nextL s a).2 ≠ 0 then (ob00, a, (nextL s a).2) else ofr (nextL s a).1 (nextL s a).1.to

def dicL (ofr : Tok → Int → PR) (s : List UInt8) : Nat → Int → List (List UInt8 × Ob) → PR
  | 0, a, _ => (ob00, a, 6)
  | n + 1, a, d =>
    if (nextL s a).2 ≠ 0 then (ob00, a, (nextL s a).2)
    else if (nextL s a).1.kind = 7 then (.mk 6 0 0 [] [] d, (nextL s a).1.to, 0)
    else if (nextL s a).1.kind = 0 then (ob00, (nextL s a).1.to, 4)
    else if n = 0 then (ob00, (nextL s a).1.to, 6)
    else if (nextL s a).1.kind ≠ 2 then (ob00, (nextL s a).1.to, 3)
    else if (objR ofr s (nextL s a).1.to).2.2 ≠ 0 then (ob00, (objR ofr s (nextL s a).1.to).2.1, (objR ofr s (nextL s a).1.to).2.2)
    else dicL ofr s n (objR ofr s (nextL s a).1.to).2.1 (setD d (nextL s a).1.s (objR ofr s (nextL s a).1.to).1)

def ofB (s : List UInt8) (arr dic : Int → PR) (t : Tok) (a : Int) : PR :=
  if t.kind = 0 then (ob00, a, 4)
  else if t.kind = 1 then ((numO s t a).1, (numO s t a).2, 0)
  else if t.kind = 2 then (.mk 3 0 0 t.s [] [], a, 0)
  else if t.kind = 3 then (.mk 4 0 0 t.s [] [], a, 0)
  else if t.kind = 4 then arr a
  else if t.kind = 6 then dic a
  else if t.kind = 8 then ((wordO t.s).1, a, (wordO t.s).2)
  else (ob00, a, 3)

def ofL (s : List UInt8) : Nat → Tok → Int → PR
  | 0 => ofB s (fun a => (ob00, a, 5)) (fun a => (ob00, a, 5))
  | r + 1 => ofB s (fun a => arrL (ofL s r) s 1025 a []) (fun a => dicL (ofL s r) s 1025 a [])

theorem ofB_end {s : List UInt8} {arr dic : Int → PR} {t : Tok} {a : Int} (h : t.kind = 0) : (ofB s arr dic t a).2.2 = 4 := by
  unfold ofB; rw [if_pos h]

abbrev OfR (x : PR) (s : List UInt8) (d : Int) (rr : AV) (ks : List BK) : Prop := rr = .tup [.agg (obC x.1), .int .i64 x.2.2] ∧ ks = [PK s x.2.1 d]
abbrev InR (x : PR) (s : List UInt8) (d : Int) (rr : AV) (ks : List BK) : Prop := ∃ o, rr = .tup [.agg (obC o), .int .i64 x.2.2] ∧ ks = [PK s x.2.1 d] ∧ (x.2.2 = 0 → o = x.1)

include hE
theorem object51 (ofr : Tok → Int → PR) (s : List UInt8) (a d : Int) (hs : s.length < 1000000)
    (hof : ∀ t a, BCalls E 116 [.ptr 1 0 0, t.av] [PK s a d] (OfR (ofr t a) s d)) : BCalls E 64 [.ptr 1 0 0] [PK s a d] (OfR (objR ofr s a) s d) := by
  have hn := next78 hE s a d hs
  have ho := hof (nextL s a).1 (nextL s a).1.to
  clear hof
  refine b64 hE fun l => ?_
  unfold objR OfR at *
  generalize nextL s a = x at *
  obtain ⟨⟨xk, xf, xs, xw, xfr, xto⟩, xe⟩ := x
  simp only at *
  generalize ofr _ _ = y at *
  obtain ⟨⟨k, n, f, os, ol, od⟩, ya, ye⟩ := y
  unfold tokAV tkE Tok.av tk at *
  unfold obC at *
  simp only at *
  by_cases he : xe = 0
  · subst he
    rw [if_neg (by simp)]
    simp only [if_true] at hn
    conv => whnf
    repeat' (first
      | (refine And.intro W1 ?_; conv => whnf)
      | (refine brD (fun _ => ?_) (fun _ => ?_) <;> first | (exfalso; omega) | (conv => whnf))
      | (refine brB (fun _ => ?_) (fun _ => ?_) <;> conv => whnf)
      | (refine CallG.b [(1, 0)] hn ⟨rfl, trivial⟩ ⟨.ptr 0 1 0 0 rfl, trivial⟩ (fun r ks' hq _ _ => ?_); obtain ⟨rfl, rfl⟩ := hq; conv => whnf)
      | (refine CallG.b [(1, 0)] ho ⟨rfl, trivial⟩ ⟨.ptr 0 1 0 0 rfl, .same _ rfl, trivial⟩ (fun r ks' hq _ _ => ?_); obtain ⟨rfl, rfl⟩ := hq; conv => whnf))
    exact RetG.b (ks := [PK s a d]) (ks' := [PK s ya d]) (by simp [hb, hbL, obL_hb, obD_hb]) (by simp [hb, hbL, obL_hb, obD_hb]) rfl rfl rfl rfl ⟨rfl, rfl⟩
  · rw [if_pos he]
    simp only [if_neg he] at hn
    conv => whnf
    repeat' (first
      | (refine And.intro W1 ?_; conv => whnf)
      | (refine brD (fun _ => ?_) (fun _ => ?_) <;> first | (exfalso; omega) | (conv => whnf))
      | (refine brB (fun _ => ?_) (fun _ => ?_) <;> conv => whnf)
      | (refine CallG.b [(1, 0)] hn ⟨rfl, trivial⟩ ⟨.ptr 0 1 0 0 rfl, trivial⟩ (fun r ks' hq _ _ => ?_); obtain ⟨rfl, rfl⟩ := hq; conv => whnf))
    exact RetG.pub (H' := frmB l [PK s a d]) (Pub.tup2 (pubOb 0 0 0 []) (.same (.int .i64 xe) rfl)) rfl rfl ⟨by simp [hb, hbL, obC_hb], [PK s a d], rfl, rfl, rfl, rfl, rfl⟩
end Ink.D

namespace Ink.D
open Go Go.Proofs
set_option maxRecDepth 100000
variable {E : Env} (hE : E.P = Tryz.prog)

include hE
theorem within109 (fid : FuncId) (x : PR) (s : List UInt8) (a d : Int) (hd0 : 0 ≤ d) (hd : d < 64) (he : x.2.2 ≠ 0 → x.1 = ob00)
    (hb_ : BCalls E fid [.ptr 1 0 0] [PK s a (d + 1)] (InR x s (d + 1))) : BCalls E 171 [.ptr 1 0 0, .fn (.func fid) [.ptr 1 0 0] []] [PK s a d] (OfR x s d) := by
  refine b171 hE fun l => ?_
  have hd1 : inI64 (d + 1) := by unfold inI64; omega
  have hd2 : inI64 (d + 1 - 1) := by unfold inI64; omega
  have hd3 : d + 1 - 1 = d := by omega
  unfold InR at hb_
  unfold OfR
  obtain ⟨⟨k, n, f, os, ol, od⟩, ya, ye⟩ := x
  simp only at *
  unfold obC at *
  conv => whnf
  repeat' (first
    | (refine And.intro W1 ?_; conv => whnf)
    | (refine brD (fun _ => ?_) (fun _ => ?_) <;> first | (exfalso; omega) | (conv => whnf))
    | (refine brB (fun _ => ?_) (fun _ => ?_) <;> conv => whnf)
    | ((first | refine CallG.e hd1 ?_ | refine CallD.e hd1 ?_ | refine CallQ.e hd1 ?_ | refine CallP.e hd1 ?_); conv => whnf)
    | ((first | refine CallG.e hd2 ?_ | refine CallD.e hd2 ?_ | refine CallQ.e hd2 ?_ | refine CallP.e hd2 ?_); conv => whnf)
    | (refine CallG.b [(1, 0)] hb_ ⟨rfl, trivial⟩ ⟨.ptr 0 1 0 0 rfl, trivial⟩ (fun r ks' hq _ _ => ?_); obtain ⟨⟨ok, on_, of_, os_, ol_, od_⟩, rfl, rfl, ho⟩ := hq; conv => whnf))
  · rename_i hye
    have he := he hye
    cases he
    exact RetG.pub (H' := frmB l [PK s ya (d + 1 - 1)]) (Pub.tup2 (pubOb 0 0 0 []) (.same (.int .i64 ye) rfl)) rfl rfl ⟨by simp [hb, hbL, obC_hb], [PK s ya (d + 1 - 1)], rfl, rfl, rfl, rfl, by rw [hd3]⟩
  · rename_i hye
    have hye : ye = 0 := Decidable.not_not.mp hye
    subst hye
    have ho := ho rfl
    cases ho
    exact RetG.b (ks := [PK s a d]) (ks' := [PK s ya (d + 1 - 1)]) (by simp [hb, hbL, obL_hb, obD_hb]) (by simp [hb, hbL, obL_hb, obD_hb]) rfl rfl rfl rfl ⟨rfl, by rw [hd3]⟩

theorem within64 (fid : FuncId) (s : List UInt8) (a : Int) : BCalls E 171 [.ptr 1 0 0, .fn (.func fid) [.ptr 1 0 0] []] [PK s a 64] (OfR (ob00, a, 5) s 64) := by
  refine b171 hE fun l => ?_
  conv => whnf
  repeat' (first
    | (refine And.intro W1 ?_; conv => whnf)
    | (refine brD (fun _ => ?_) (fun _ => ?_) <;> first | (exfalso; omega) | (conv => whnf))
    | (refine brB (fun _ => ?_) (fun _ => ?_) <;> conv => whnf))
  exact RetG.pub (H' := frmB l [PK s a 64]) (Pub.tup2 (pubOb 0 0 0 []) (.same (.int .i64 5) rfl)) rfl rfl ⟨by simp [hb, hbL, obC_hb], [PK s a 64], rfl, rfl, rfl, rfl, rfl⟩

omit hE in
def cellsL (d : List Ob) : List AV := (obL d).flatten
omit hE in
theorem cellsL_append (a b : List Ob) : cellsL (a ++ b) = cellsL a ++ cellsL b := by
  simp [cellsL, obL_map]

omit hE in
theorem obC_len (o : Ob) : (obC o).length = 6 := by
  obtain ⟨k, n, f, s, l, d⟩ := o
  unfold obC
  rfl
omit hE in
theorem cellsL_length (l : List Ob) : (cellsL l).length = l.length * 6 := by
  induction l with
  | nil => rfl
  | cons o l ih => rw [← List.singleton_append, cellsL_append, List.length_append, ih, List.length_append]; simp [cellsL, obL_map, obC_len]; omega
omit hE in
theorem pubL {H : List Blk} {n i ver : Nat} (F : List Ob) (hl : liveCells H i ver = some (26, cellsL F)) (hi : n ≤ i) : Pub H n (.own i ver 0 F.length 6) (.imm 6 (obL F)) := by
  refine .own i ver 0 F.length 6 26 _ _ hl hi (by rw [obL_map]; simp) ?_ ?_ ?_ (fun j x y hx hy => ?_)
  · intro x hx
    rw [obL_map] at hx
    obtain ⟨o, _, rfl⟩ := List.mem_map.mp hx
    exact obC_len o
  · intro x hx
    obtain ⟨y, hy, hx⟩ := List.mem_flatten.mp hx
    rw [obL_map] at hy
    obtain ⟨o, _, rfl⟩ := List.mem_map.mp hy
    exact obC_sc o x hx
  · show 0 + (cellsL F).length ≤ _
    simp
  · have hx' : (cellsL F)[j]? = some x := hx
    rw [Nat.zero_add, hx'] at hy
    cases hy
    refine .same _ ?_
    obtain ⟨z, hz, hx2⟩ := List.mem_flatten.mp (List.mem_of_getElem? hx)
    rw [obL_map] at hz
    obtain ⟨o, _, rfl⟩ := List.mem_map.mp hz
    exact hbL_iff.mp (obC_hb o) x hx2

omit hE in
theorem take_all {α : Type} {l : List α} {n : Nat} (h : l.length = n) : l.take n = l := by rw [← h, List.take_length]
omit hE in
theorem cellsL_hb (n0 : Nat) (l : List Ob) : hbL n0 (cellsL l) = true := by
  rw [hbL_iff]
  intro x hx
  obtain ⟨z, hz, hx2⟩ := List.mem_flatten.mp hx
  rw [obL_map] at hz
  obtain ⟨o, _, rfl⟩ := List.mem_map.mp hz
  exact hbL_iff.mp (obC_hb o) x hx2
omit hE in
theorem _root_.Ink.GcB.eq {H H' : List Blk} {sel : List (Option Nat)} {k k' : BK} (h : k = k') (hf : bkFree k' = true) : GcB H H' sel k k' := by
  subst h; exact .same _ hf

set_option maxHeartbeats 1000000 in
theorem array110 (ofr : Tok → Int → PR) (s : List UInt8) (a d : Int) (hs : s.length < 1000000) (h0 : ∀ t a, t.kind = 0 → (ofr t a).2.2 ≠ 0)
    (hof : ∀ t a, BCalls E 116 [.ptr 1 0 0, t.av] [PK s a d] (OfR (ofr t a) s d)) : BCalls E 172 [.ptr 1 0 0] [PK s a d] (InR (arrL ofr s 1025 a []) s d) := by
  refine b172 hE fun l => ?_
  conv => whnf
  repeat' (first
    | (refine And.intro W1 ?_; conv => whnf)
    | (refine brD (fun _ => ?_) (fun _ => ?_) <;> first | (exfalso; omega) | (conv => whnf))
    | (refine brB (fun _ => ?_) (fun _ => ?_) <;> conv => whnf))
  refine LoopG.w (fun x : Int × List Ob => x.2.length ≤ 1024 ∧ arrL ofr s 1025 a [] = arrL ofr s (1025 - x.2.length) x.1 x.2) 51 (fun x => [(0, .ptr 1 0 0), (2, .ptr 2 0 0), (3, .int .i64 0), (4, .ptr 3 0 0)])
    (fun x => [⟨0, true, .frame l⟩, ⟨0, true, PK s x.1 d⟩, ⟨0, true, .cells 26 [.int .i64 0, .int .i64 0, .int .i64 0, .str [], nilA, nilA]⟩, ⟨0, true, .cells 26 [.int .i64 5, .int .i64 0, .int .i64 0, .str [], .own 4 0 0 x.2.length 6, nilA]⟩, ⟨0, true, .cells 26 (cellsL x.2)⟩])
    (fun x => 1025 - x.2.length) (a, []) ⟨by simp, rfl⟩
    (Wk.gc [some 0, some 1, some 2, some 3, none] rfl rfl rfl ⟨⟨_, _, rfl, rfl, .same _ rfl⟩, ⟨_, _, rfl, rfl, .same _ rfl⟩, ⟨_, _, rfl, rfl, .same _ rfl⟩, ⟨_, _, rfl, rfl, .l (by simp [sc]; rfl) ⟨.same _ rfl, .same _ rfl, .same _ rfl, .same _ rfl, .nilOwn 4 0 6 26 rfl rfl, .same _ rfl, trivial⟩⟩, ⟨0, 26, rfl⟩, trivial⟩
      ⟨⟨_, rfl, .ptr 1 1 0 0 0 _ _ rfl rfl rfl⟩, ⟨_, rfl, .ptr 2 2 0 0 0 _ _ rfl rfl rfl⟩, ⟨_, rfl, .same _ rfl⟩, ⟨_, rfl, .ptr 3 3 0 0 0 _ _ rfl rfl rfl⟩, trivial⟩) ?_
  rintro ⟨p, acc⟩ ⟨hacc, hinv⟩
  simp only at hacc hinv
  unfold InR OfR at *
  generalize arrL ofr s 1025 a [] = R at *
  obtain ⟨m, hm⟩ : ∃ m, 1025 - acc.length = m + 1 := ⟨1024 - acc.length, by omega⟩
  rw [hm] at hinv
  unfold arrL at hinv
  have hn := next78 hE s p d hs
  have ho := hof (nextL s p).1 (nextL s p).1.to
  have hz := h0 (nextL s p).1 (nextL s p).1.to
  clear hof h0
  generalize nextL s p = x at *
  obtain ⟨⟨xk, xf, xs, xw, xfr, xto⟩, xe⟩ := x
  simp only at *
  generalize ofr _ _ = y at *
  obtain ⟨⟨yk, yn, yf, ys, yl, yd⟩, ya, ye⟩ := y
  unfold tokAV tkE Tok.av tk at *
  simp only at *
  unfold obC at ho
  have pub : ∀ (H : List Blk), liveCells H 4 0 = some (26, cellsL acc) → Pub H 2 (.agg [.int .i64 5, .int .i64 0, .int .i64 0, .str [], .own 4 0 0 acc.length 6, nilA]) (.agg (obC (.mk 5 0 0 [] acc []))) :=
    fun H hl => Pub.aggL ⟨.same _ rfl, .same _ rfl, .same _ rfl, .same _ rfl, pubL acc hl (by decide), .nil _ _, trivial⟩ (obC_sc _)
  by_cases he : xe = 0
  · subst he
    rw [if_neg (by simp)] at hinv
    simp only [if_true] at hn
    by_cases hk5 : xk = 5
    · rw [if_pos hk5] at hinv
      subst hinv
      conv => whnf
      repeat' (first
        | (refine And.intro W1 ?_; conv => whnf)
        | (refine brD (fun _ => ?_) (fun _ => ?_) <;> first | (exfalso; omega) | (conv => whnf))
        | (refine brB (fun _ => ?_) (fun _ => ?_) <;> conv => whnf)
        | (refine CallG.b [(1, 0)] hn ⟨rfl, trivial⟩ ⟨.ptr 0 1 0 0 rfl, trivial⟩ (fun r ks' hq _ _ => ?_); obtain ⟨rfl, rfl⟩ := hq; conv => whnf))
      exact RetG.pub (H' := frmB l [PK s xto d]) (Pub.tup2 (pub _ rfl) (.same (.int .i64 0) rfl)) rfl rfl ⟨by simp [hb, hbL, obC_hb], [PK s xto d], rfl, rfl, rfl, ⟨_, rfl, rfl, fun _ => rfl⟩⟩
    · rw [if_neg hk5] at hinv
      by_cases hf : xk ≠ 0 ∧ acc.length = 1024
      · rw [if_pos hf] at hinv
        subst hinv
        obtain ⟨hf1, hf2⟩ := hf
        have hf3 : (acc.length : Int) = 1024 := by omega
        conv => whnf
        repeat' (first
          | (refine And.intro W1 ?_; conv => whnf)
          | (refine brD (fun _ => ?_) (fun _ => ?_) <;> first | (exfalso; omega) | (conv => whnf))
          | (refine brB (fun _ => ?_) (fun _ => ?_) <;> conv => whnf)
          | ((first | refine CallG.e hf3 ?_ | refine CallD.e hf3 ?_ | refine CallQ.e hf3 ?_ | refine CallP.e hf3 ?_); conv => whnf)
          | (refine CallG.b [(1, 0)] hn ⟨rfl, trivial⟩ ⟨.ptr 0 1 0 0 rfl, trivial⟩ (fun r ks' hq _ _ => ?_); obtain ⟨rfl, rfl⟩ := hq; conv => whnf))
        all_goals first | contradiction | exact RetG.pub (H' := frmB l [PK s xto d]) (Pub.tup2 (pub _ rfl) (.same (.int .i64 6) rfl)) rfl rfl ⟨by simp [hb, hbL, obC_hb], [PK s xto d], rfl, rfl, rfl, ⟨_, rfl, rfl, fun h => by simp at h⟩⟩
      · rw [if_neg hf] at hinv
        have hf3 : xk ≠ 0 → ¬ (acc.length : Int) = 1024 := fun h1 h2 => hf ⟨h1, by omega⟩
        by_cases hy : ye = 0
        · subst hy
          rw [if_neg (by simp)] at hinv
          have hk0 : xk ≠ 0 := fun h => (hz h) rfl
          have hf3 := hf3 hk0
          have hcl : 0 + acc.length * 6 ≤ (cellsL acc).length := by rw [cellsL_length]; omega
          have hcap : (acc.length + 1) * 88 ≤ 70368744177664 := by omega
          conv => whnf
          repeat' (first
            | (refine And.intro W1 ?_; conv => whnf)
            | (refine brD (fun _ => ?_) (fun _ => ?_) <;> first | (exfalso; omega) | (conv => whnf))
            | (refine brB (fun _ => ?_) (fun _ => ?_) <;> conv => whnf)
            | (refine CallG.b [(1, 0)] hn ⟨rfl, trivial⟩ ⟨.ptr 0 1 0 0 rfl, trivial⟩ (fun r ks' hq _ _ => ?_); obtain ⟨rfl, rfl⟩ := hq; conv => whnf)
            | (refine CallG.b [(1, 0)] ho ⟨rfl, trivial⟩ ⟨.ptr 0 1 0 0 rfl, .same _ rfl, trivial⟩ (fun r ks' hq _ _ => ?_); obtain ⟨rfl, rfl⟩ := hq; conv => whnf)
            | (refine And.intro ⟨rfl, rfl, rfl, hcl, by decide, hcap⟩ ?_; conv => whnf))
          have hcell : BK.cells 26 (((cellsL acc).drop 0).take (acc.length * 6) ++ [[AV.int .i64 yk, .int .i64 yn, .int .i64 yf, .str ys, .imm 6 (obL yl), .imm 7 (obD yd)]].flatten) = BK.cells 26 (cellsL (acc ++ [.mk yk yn yf ys yl yd])) := by
            rw [List.drop_zero, take_all (cellsL_length acc), cellsL_append]; rfl
          have hl1 : (acc ++ [Ob.mk yk yn yf ys yl yd]).length = acc.length + 1 := by simp
          exact ⟨(ya, acc ++ [.mk yk yn yf ys yl yd]), ⟨⟨by simp only [hl1]; omega, by simp only [hl1]; rw [hinv]; congr 1; omega⟩, by simp only [hl1]; omega⟩,
            Wk.gc [some 0, some 1, some 2, some 3, some 4] rfl rfl rfl ⟨⟨_, _, rfl, rfl, .same _ rfl⟩, ⟨_, _, rfl, rfl, .same _ rfl⟩, ⟨_, _, rfl, rfl, .same _ rfl⟩, ⟨_, _, rfl, rfl, .l (by simp [sc]; rfl) ⟨.same _ rfl, .same _ rfl, .same _ rfl, .same _ rfl, (by simp only [hl1]; exact .own 4 4 1 0 0 _ 6 _ _ rfl rfl rfl), .same _ rfl, trivial⟩⟩, ⟨_, _, rfl, rfl, .eq hcell (by simp [bkFree, hbB, cellsL_hb])⟩, trivial⟩
            ⟨⟨_, rfl, .ptr 1 1 0 0 0 _ _ rfl rfl rfl⟩, ⟨_, rfl, .ptr 2 2 0 0 0 _ _ rfl rfl rfl⟩, ⟨_, rfl, .same _ rfl⟩, ⟨_, rfl, .ptr 3 3 0 0 0 _ _ rfl rfl rfl⟩, trivial⟩⟩
        · rw [if_pos hy] at hinv
          subst hinv
          conv => whnf
          repeat' (first
            | (refine And.intro W1 ?_; conv => whnf)
            | (refine brD (fun _ => ?_) (fun _ => ?_) <;> first | (exfalso; omega) | (conv => whnf))
            | (refine brB (fun _ => ?_) (fun _ => ?_) <;> conv => whnf)
            | (refine CallG.b [(1, 0)] hn ⟨rfl, trivial⟩ ⟨.ptr 0 1 0 0 rfl, trivial⟩ (fun r ks' hq _ _ => ?_); obtain ⟨rfl, rfl⟩ := hq; conv => whnf)
            | (refine CallG.b [(1, 0)] ho ⟨rfl, trivial⟩ ⟨.ptr 0 1 0 0 rfl, .same _ rfl, trivial⟩ (fun r ks' hq _ _ => ?_); obtain ⟨rfl, rfl⟩ := hq; conv => whnf))
          all_goals first | (exfalso; apply hf3 <;> assumption) | exact RetG.pub (H' := frmB l [PK s ya d]) (Pub.tup2 (pub _ rfl) (.same (.int .i64 ye) rfl)) rfl rfl ⟨by simp [hb, hbL, obC_hb], [PK s ya d], rfl, rfl, rfl, ⟨_, rfl, rfl, fun h => absurd h hy⟩⟩
  · rw [if_pos he] at hinv
    subst hinv
    simp only [if_neg he] at hn
    conv => whnf
    repeat' (first
      | (refine And.intro W1 ?_; conv => whnf)
      | (refine brD (fun _ => ?_) (fun _ => ?_) <;> first | (exfalso; omega) | (conv => whnf))
      | (refine brB (fun _ => ?_) (fun _ => ?_) <;> conv => whnf)
      | (refine CallG.b [(1, 0)] hn ⟨rfl, trivial⟩ ⟨.ptr 0 1 0 0 rfl, trivial⟩ (fun r ks' hq _ _ => ?_); obtain ⟨rfl, rfl⟩ := hq; conv => whnf))
    all_goals first | contradiction | exact RetG.pub (H' := frmB l [PK s p d]) (Pub.tup2 (pub _ rfl) (.same (.int .i64 xe) rfl)) rfl rfl ⟨by simp [hb, hbL, obC_hb], [PK s p d], rfl, rfl, rfl, ⟨_, rfl, rfl, fun h => absurd h he⟩⟩
end Ink.D

namespace Ink.D
open Go Go.Proofs
set_option maxRecDepth 100000
variable {E : Env} (hE : E.P = Tryz.prog)

theorem insD_len (k : Nat) (e : List UInt8 × Ob) (d : List (List UInt8 × Ob)) : (insD k e d).length = d.length + 1 := by
  simp [insD]; omega

theorem setD_len (d : List (List UInt8 × Ob)) (key : List UInt8) (v : Ob) : (setD d key v).length ≤ d.length + 1 := by
  have := dropD_le key d
  unfold setD
  split
  · omega
  · split
    · simp; omega
    · rw [insD_len]; omega

include hE
set_option maxHeartbeats 1000000 in
theorem dict111 (ofr : Tok → Int → PR) (s : List UInt8) (a d : Int) (hs : s.length < 1000000)
    (hof : ∀ t a, BCalls E 116 [.ptr 1 0 0, t.av] [PK s a d] (OfR (ofr t a) s d)) : BCalls E 173 [.ptr 1 0 0] [PK s a d] (InR (dicL ofr s 1025 a []) s d) := by
  have hob := fun a => object51 hE ofr s a d hs hof
  clear hof
  refine b173 hE fun l => ?_
  conv => whnf
  repeat' (first
    | (refine And.intro W1 ?_; conv => whnf)
    | (refine brD (fun _ => ?_) (fun _ => ?_) <;> first | (exfalso; omega) | (conv => whnf))
    | (refine brB (fun _ => ?_) (fun _ => ?_) <;> conv => whnf))
  refine LoopG.w (fun x : Int × Nat × List (List UInt8 × Ob) => x.2.1 ≤ 1024 ∧ x.2.2.length ≤ x.2.1 ∧ dicL ofr s 1025 a [] = dicL ofr s (1025 - x.2.1) x.1 x.2.2) 55 (fun x => [(0, .ptr 1 0 0), (2, .ptr 2 0 0), (3, .int .i64 0), (4, .ptr 3 0 0), (5, .int .i64 x.2.1)])
    (fun x => [⟨0, true, .frame l⟩, ⟨0, true, PK s x.1 d⟩, ⟨0, true, .cells 26 [.int .i64 0, .int .i64 0, .int .i64 0, .str [], nilA, nilA]⟩, ⟨0, true, .cells 26 [.int .i64 6, .int .i64 0, .int .i64 0, .str [], .imm 6 (obL []), .imm 7 (obD x.2.2)]⟩])
    (fun x => 1025 - x.2.1) (a, 0, []) ⟨by simp, by simp, rfl⟩
    (Wk.gc [some 0, some 1, some 2, some 3] rfl rfl rfl ⟨⟨_, _, rfl, rfl, .same _ rfl⟩, ⟨_, _, rfl, rfl, .same _ rfl⟩, ⟨_, _, rfl, rfl, .same _ rfl⟩, ⟨_, _, rfl, rfl, .l (by simp [sc]) ⟨.same _ rfl, .same _ rfl, .same _ rfl, .same _ rfl, .nil _ _, .nil _ _, trivial⟩⟩, trivial⟩
      ⟨⟨_, rfl, .ptr 1 1 0 0 0 _ _ rfl rfl rfl⟩, ⟨_, rfl, .ptr 2 2 0 0 0 _ _ rfl rfl rfl⟩, ⟨_, rfl, .same _ rfl⟩, ⟨_, rfl, .ptr 3 3 0 0 0 _ _ rfl rfl rfl⟩, ⟨_, rfl, .same _ rfl⟩, trivial⟩) ?_
  rintro ⟨p, cnt, acc⟩ ⟨hcnt, hacc, hinv⟩
  simp only at hcnt hacc hinv
  unfold InR OfR at *
  generalize dicL ofr s 1025 a [] = R at *
  obtain ⟨m, hm⟩ : ∃ m, 1025 - cnt = m + 1 := ⟨1024 - cnt, by omega⟩
  rw [hm] at hinv
  unfold dicL at hinv
  have hn := next78 hE s p d hs
  have ho := hob (nextL s p).1.to
  have hset := set hE (.mk 6 0 0 [] [] acc) (nextL s p).1.s (objR ofr s (nextL s p).1.to).1
  have hsl := setD_len acc (nextL s p).1.s (objR ofr s (nextL s p).1.to).1
  clear hob
  generalize nextL s p = x at *
  obtain ⟨⟨xk, xf, xs, xw, xfr, xto⟩, xe⟩ := x
  simp only at *
  generalize objR ofr s xto = y at *
  obtain ⟨⟨yk, yn, yf, ys, yl, yd⟩, ya, ye⟩ := y
  unfold tokAV tkE Tok.av tk at *
  simp only at *
  have pub : ∀ (H : List Blk), Pub H 2 (.agg [.int .i64 6, .int .i64 0, .int .i64 0, .str [], .imm 6 (obL []), .imm 7 (obD acc)]) (.agg (obC (.mk 6 0 0 [] [] acc))) :=
    fun H => .same _ (by simp [hb, hbL, obL_hb, obD_hb])
  have hi1 : inI64 ((cnt : Int) + 1) := by unfold inI64; omega
  have hset := hset (fun k n f s l d' h => by cases h; unfold big; omega)
  have hsl2 : setL (.mk 6 0 0 [] [] acc) xs (.mk yk yn yf ys yl yd) = .mk 6 0 0 [] [] (setD acc xs (.mk yk yn yf ys yl yd)) := by simp [setL]
  rw [hsl2] at hset
  generalize setD acc xs (.mk yk yn yf ys yl yd) = acc' at *
  unfold obC at hset ho
  by_cases he : xe = 0
  · subst he
    rw [if_neg (by simp)] at hinv
    simp only [if_true] at hn
    conv => whnf
    repeat' (first
      | (refine And.intro W1 ?_; conv => whnf)
      | (refine brD (fun _ => ?_) (fun _ => ?_) <;> first | (exfalso; omega) | (conv => whnf))
      | (refine brB (fun _ => ?_) (fun _ => ?_) <;> conv => whnf)
      | ((first | refine CallG.e hset ?_ | refine CallD.e hset ?_ | refine CallQ.e hset ?_ | refine CallP.e hset ?_); conv => whnf)
      | ((first | refine CallG.e hi1 ?_ | refine CallD.e hi1 ?_ | refine CallQ.e hi1 ?_ | refine CallP.e hi1 ?_); conv => whnf)
      | (refine CallG.b [(1, 0)] hn ⟨rfl, trivial⟩ ⟨.ptr 0 1 0 0 rfl, trivial⟩ (fun r ks' hq _ _ => ?_); obtain ⟨rfl, rfl⟩ := hq; conv => whnf)
      | (refine CallG.b [(1, 0)] ho ⟨rfl, trivial⟩ ⟨.ptr 0 1 0 0 rfl, trivial⟩ (fun r ks' hq _ _ => ?_); obtain ⟨rfl, rfl⟩ := hq; conv => whnf))
    · rw [if_pos (by assumption)] at hinv
      subst hinv
      exact RetG.pub (H' := frmB l [PK s xto d]) (Pub.tup2 (pub _) (.same (.int .i64 0) rfl)) rfl rfl ⟨by simp [hb, hbL, obC_hb], [PK s xto d], rfl, rfl, rfl, ⟨_, rfl, rfl, fun _ => rfl⟩⟩
    · rw [if_neg (by assumption), if_pos (by assumption)] at hinv
      subst hinv
      exact RetG.pub (H' := frmB l [PK s xto d]) (Pub.tup2 (pub _) (.same (.int .i64 4) rfl)) rfl rfl ⟨by simp [hb, hbL, obC_hb], [PK s xto d], rfl, rfl, rfl, ⟨_, rfl, rfl, fun h => by simp at h⟩⟩
    · rw [if_neg (by assumption), if_neg (by assumption), if_pos (by omega)] at hinv
      subst hinv
      exact RetG.pub (H' := frmB l [PK s xto d]) (Pub.tup2 (pub _) (.same (.int .i64 6) rfl)) rfl rfl ⟨by simp [hb, hbL, obC_hb], [PK s xto d], rfl, rfl, rfl, ⟨_, rfl, rfl, fun h => by simp at h⟩⟩
    · rw [if_neg (by assumption), if_neg (by assumption), if_neg (by omega), if_pos (by assumption)] at hinv
      subst hinv
      exact RetG.pub (H' := frmB l [PK s xto d]) (Pub.tup2 (pub _) (.same (.int .i64 3) rfl)) rfl rfl ⟨by simp [hb, hbL, obC_hb], [PK s xto d], rfl, rfl, rfl, ⟨_, rfl, rfl, fun h => by simp at h⟩⟩
    · rename_i hy
      rw [if_neg (by assumption), if_neg (by assumption), if_neg (by omega), if_neg (by assumption), if_pos hy] at hinv
      subst hinv
      exact RetG.pub (H' := frmB l [PK s ya d]) (Pub.tup2 (pub _) (.same (.int .i64 ye) rfl)) rfl rfl ⟨by simp [hb, hbL, obC_hb], [PK s ya d], rfl, rfl, rfl, ⟨_, rfl, rfl, fun h => absurd h hy⟩⟩
    · rename_i hy
      rw [if_neg (by assumption), if_neg (by assumption), if_neg (by omega), if_neg (by assumption), if_neg hy] at hinv
      exact ⟨(ya, cnt + 1, acc'), ⟨⟨by simp only; omega, by simp only; omega, by simp only; rw [hinv]; congr 1; omega⟩, by simp only; omega⟩,
        Wk.gc [some 0, some 1, some 2, some 3] rfl rfl rfl ⟨⟨_, _, rfl, rfl, .same _ rfl⟩, ⟨_, _, rfl, rfl, .same _ rfl⟩, ⟨_, _, rfl, rfl, .same _ rfl⟩, ⟨_, _, rfl, rfl, .eq rfl (by simp [bkFree, hbB, hbL, hb, obL_hb, obD_hb])⟩, trivial⟩
        ⟨⟨_, rfl, .ptr 1 1 0 0 0 _ _ rfl rfl rfl⟩, ⟨_, rfl, .ptr 2 2 0 0 0 _ _ rfl rfl rfl⟩, ⟨_, rfl, .same _ rfl⟩, ⟨_, rfl, .ptr 3 3 0 0 0 _ _ rfl rfl rfl⟩, ⟨_, rfl, .same _ rfl⟩, trivial⟩⟩
  · rw [if_pos he] at hinv
    subst hinv
    simp only [if_neg he] at hn
    conv => whnf
    repeat' (first
      | (refine And.intro W1 ?_; conv => whnf)
      | (refine brD (fun _ => ?_) (fun _ => ?_) <;> first | (exfalso; omega) | (conv => whnf))
      | (refine brB (fun _ => ?_) (fun _ => ?_) <;> conv => whnf)
      | (refine CallG.b [(1, 0)] hn ⟨rfl, trivial⟩ ⟨.ptr 0 1 0 0 rfl, trivial⟩ (fun r ks' hq _ _ => ?_); obtain ⟨rfl, rfl⟩ := hq; conv => whnf))
    all_goals first | contradiction | exact RetG.pub (H' := frmB l [PK s p d]) (Pub.tup2 (pub _) (.same (.int .i64 xe) rfl)) rfl rfl ⟨by simp [hb, hbL, obC_hb], [PK s p d], rfl, rfl, rfl, ⟨_, rfl, rfl, fun h => absurd h he⟩⟩
end Ink.D

namespace Ink.D
open Go Go.Proofs
set_option maxRecDepth 100000
variable {E : Env} (hE : E.P = Tryz.prog)

theorem renFn (f : Fn) : Ren [(1, 0)] (.fn f [.ptr 1 0 0] []) (.fn f [.ptr 1 0 0] []) := by
  refine .fn f _ _ _ _ rfl rfl (fun j x y hx hy => ?_) (fun j x y hx hy => by simp at hx)
  cases j with
  | zero => simp at hx hy; subst hx hy; exact .ptr 0 1 0 0 rfl
  | succ j => simp at hx

include hE
set_option maxHeartbeats 1000000 in
theorem of79 (arr dic : Int → PR) (s : List UInt8) (a d : Int) (hs : s.length < 1000000) (t : Tok)
    (hA : BCalls E 171 [.ptr 1 0 0, .fn (.func 172) [.ptr 1 0 0] []] [PK s a d] (OfR (arr a) s d))
    (hD : BCalls E 171 [.ptr 1 0 0, .fn (.func 173) [.ptr 1 0 0] []] [PK s a d] (OfR (dic a) s d)) : BCalls E 116 [.ptr 1 0 0, t.av] [PK s a d] (OfR (ofB s arr dic t a) s d) := by
  have hN := number107 hE s t a d hs
  have hw := word112 hE t.s
  have hnm := word108 hE t.s
  refine b116 hE fun l => ?_
  unfold ofB OfR at *
  generalize numO s t a = no at *
  generalize wordO t.s = wo at *
  generalize arr a = ar at *
  generalize dic a = di at *
  obtain ⟨⟨nk, nn, nf, ns, nl, nd⟩, na⟩ := no
  obtain ⟨⟨wk, wn, wf, ws, wl, wd⟩, we⟩ := wo
  obtain ⟨⟨ak, an, af_, as_, al, ad⟩, aa, ae⟩ := ar
  obtain ⟨⟨dk, dn, df, ds, dl, dd⟩, da, de⟩ := di
  obtain ⟨tk_, tf, ts, tw, tfr, tto⟩ := t
  unfold Tok.av tk at *
  simp only at *
  unfold obC at hN hw hA hD hnm
  conv => whnf
  repeat' (first
    | (refine And.intro W1 ?_; conv => whnf)
    | (refine brD (fun _ => ?_) (fun _ => ?_) <;> first | (exfalso; omega) | (conv => whnf))
    | (refine brB (fun _ => ?_) (fun _ => ?_) <;> conv => whnf)
    | ((first | refine CallG.e hw ?_ | refine CallD.e hw ?_ | refine CallQ.e hw ?_ | refine CallP.e hw ?_); conv => whnf)
    | ((first | refine CallG.e hnm ?_ | refine CallD.e hnm ?_ | refine CallQ.e hnm ?_ | refine CallP.e hnm ?_); conv => whnf)
    | (refine CallG.b [(1, 0)] hN ⟨rfl, trivial⟩ ⟨.ptr 0 1 0 0 rfl, .same _ rfl, trivial⟩ (fun r ks' hq _ _ => ?_); obtain ⟨rfl, rfl⟩ := hq; conv => whnf)
    | (refine CallG.b [(1, 0)] hA ⟨rfl, trivial⟩ ⟨.ptr 0 1 0 0 rfl, renFn _, trivial⟩ (fun r ks' hq _ _ => ?_); obtain ⟨rfl, rfl⟩ := hq; conv => whnf)
    | (refine CallG.b [(1, 0)] hD ⟨rfl, trivial⟩ ⟨.ptr 0 1 0 0 rfl, renFn _, trivial⟩ (fun r ks' hq _ _ => ?_); obtain ⟨rfl, rfl⟩ := hq; conv => whnf))
  · rw [if_pos (by assumption)]
    exact RetG.pub (H' := frmB l [PK s a d]) (Pub.tup2 (pubOb 0 0 0 []) (.same (.int .i64 4) rfl)) rfl rfl ⟨by simp [hb, hbL, obC_hb], [PK s a d], rfl, rfl, rfl, rfl, rfl⟩
  · rw [if_neg (by assumption), if_pos (by assumption)]
    exact RetG.b (ks := [PK s a d]) (ks' := [PK s na d]) (by simp [hb, hbL, obL_hb, obD_hb]) (by simp [hb, hbL, obL_hb, obD_hb]) rfl rfl rfl rfl ⟨rfl, rfl⟩
  · rw [if_neg (by assumption), if_neg (by assumption), if_pos (by assumption)]
    exact RetG.b (ks := [PK s a d]) (ks' := [PK s a d]) (by simp [hb, hbL, obL_hb, obD_hb]) (by simp [hb, hbL, obL_hb, obD_hb]) rfl rfl rfl rfl ⟨rfl, rfl⟩
  · rw [if_neg (by assumption), if_neg (by assumption), if_neg (by assumption), if_pos (by assumption)]
    exact RetG.pub (H' := frmB l [PK s a d]) (Pub.tup2 (pubOb 4 0 0 ts) (.same (.int .i64 0) rfl)) rfl rfl ⟨by simp [hb, hbL, obC_hb], [PK s a d], rfl, rfl, rfl, rfl, rfl⟩
  · rw [if_neg (by assumption), if_neg (by assumption), if_neg (by assumption), if_neg (by assumption), if_pos (by assumption)]
    exact RetG.b (ks := [PK s a d]) (ks' := [PK s aa d]) (by simp [hb, hbL, obL_hb, obD_hb]) (by simp [hb, hbL, obL_hb, obD_hb]) rfl rfl rfl rfl ⟨rfl, rfl⟩
  · rw [if_neg (by assumption), if_neg (by assumption), if_neg (by assumption), if_neg (by assumption), if_neg (by assumption), if_pos (by assumption)]
    exact RetG.b (ks := [PK s a d]) (ks' := [PK s da d]) (by simp [hb, hbL, obL_hb, obD_hb]) (by simp [hb, hbL, obL_hb, obD_hb]) rfl rfl rfl rfl ⟨rfl, rfl⟩
  · rw [if_neg (by assumption), if_neg (by assumption), if_neg (by assumption), if_neg (by assumption), if_neg (by assumption), if_neg (by assumption), if_pos (by assumption)]
    exact RetG.b (ks := [PK s a d]) (ks' := [PK s a d]) (by simp [hb, hbL, obL_hb, obD_hb]) (by simp [hb, hbL, obL_hb, obD_hb]) rfl rfl rfl rfl ⟨rfl, rfl⟩
  · rw [if_neg (by assumption), if_neg (by assumption), if_neg (by assumption), if_neg (by assumption), if_neg (by assumption), if_neg (by assumption), if_neg (by assumption)]
    exact RetG.pub (H' := frmB l [PK s a d]) (Pub.tup2 (pubOb 0 0 0 []) (.same (.int .i64 3) rfl)) rfl rfl ⟨by simp [hb, hbL, obC_hb], [PK s a d], rfl, rfl, rfl, rfl, rfl⟩

omit hE in
theorem arrL_err (ofr : Tok → Int → PR) (s : List UInt8) : ∀ (n : Nat) (a : Int) (acc : List Ob), (arrL ofr s n a acc).2.2 ≠ 0 → (arrL ofr s n a acc).1 = ob00
  | 0, a, acc, _ => rfl
  | n + 1, a, acc, h => by
    unfold arrL at h ⊢
    split
    · rfl
    · rename_i h1
      rw [if_neg h1] at h
      split
      · rename_i h2
        rw [if_pos h2] at h
        exact absurd rfl h
      · rename_i h2
        rw [if_neg h2] at h
        split
        · rfl
        · rename_i h3
          rw [if_neg h3] at h
          split
          · rfl
          · rename_i h4
            rw [if_neg h4] at h
            exact arrL_err ofr s n _ _ h

omit hE in
theorem dicL_err (ofr : Tok → Int → PR) (s : List UInt8) : ∀ (n : Nat) (a : Int) (acc : List (List UInt8 × Ob)), (dicL ofr s n a acc).2.2 ≠ 0 → (dicL ofr s n a acc).1 = ob00
  | 0, a, acc, _ => rfl
  | n + 1, a, acc, h => by
    unfold dicL at h ⊢
    split
    · rfl
    · rename_i h1
      rw [if_neg h1] at h
      split
      · rename_i h2
        rw [if_pos h2] at h
        exact absurd rfl h
      · rename_i h2
        rw [if_neg h2] at h
        split
        · rfl
        · rename_i h3
          rw [if_neg h3] at h
          split
          · rfl
          · rename_i h4
            rw [if_neg h4] at h
            split
            · rfl
            · rename_i h5
              rw [if_neg h5] at h
              split
              · rfl
              · rename_i h6
                rw [if_neg h6] at h
                exact dicL_err ofr s n _ _ h

theorem ofP (s : List UInt8) (hs : s.length < 1000000) : ∀ (r : Nat), r ≤ 64 → ∀ (t : Tok) (a : Int), BCalls E 116 [.ptr 1 0 0, t.av] [PK s a (64 - (r : Int))] (OfR (ofL s r t a) s (64 - (r : Int)))
  | 0, _, t, a => of79 hE _ _ s a 64 hs t (within64 hE 172 s a) (within64 hE 173 s a)
  | r + 1, hr, t, a => by
    have ih := ofP s hs r (by omega)
    have e : (64 : Int) - (r : Int) = 64 - ((r + 1 : Nat) : Int) + 1 := by omega
    rw [e] at ih
    have h0 : ∀ t a, t.kind = 0 → (ofL s r t a).2.2 ≠ 0 := by
      intro t a h
      cases r with
      | zero => unfold ofL; rw [ofB_end h]; decide
      | succ r => unfold ofL; rw [ofB_end h]; decide
    exact of79 hE _ _ s a _ hs t (within109 hE 172 _ s a _ (by omega) (by omega) (arrL_err _ _ _ _ _) (array110 hE _ s a _ hs h0 ih)) (within109 hE 173 _ s a _ (by omega) (by omega) (dicL_err _ _ _ _ _) (dict111 hE _ s a _ hs ih))

omit hE in
def parseR (s : List UInt8) (a : Int) : PR :=
  if (objR (ofL s 64) s a).2.2 = 0 then objR (ofL s 64) s a else (ob00, 0, (objR (ofL s 64) s a).2.2)

theorem parse31 (s : List UInt8) (a : Int) (hs : s.length < 1000000) : PCalls E 26 [.str s, .int .i64 a] (· = .tup [.agg (obC (parseR s a).1), .int .i64 (parseR s a).2.1, .int .i64 (parseR s a).2.2]) := by
  have ho := object51 hE (ofL s 64) s a 0 hs (ofP hE s hs 64 (Nat.le_refl _))
  refine p26 hE (fun l => ?_)
  unfold parseR OfR at *
  generalize objR (ofL s 64) s a = x at *
  obtain ⟨⟨k, n, f, os, ol, od⟩, xa, xe⟩ := x
  simp only at *
  unfold obC at ho
  conv => whnf
  repeat' (first
    | (refine And.intro W1 ?_; conv => whnf)
    | (refine brD (fun _ => ?_) (fun _ => ?_) <;> first | (exfalso; omega) | (conv => whnf))
    | (refine brB (fun _ => ?_) (fun _ => ?_) <;> conv => whnf)
    | (refine CallG.b [(2, 0)] ho ⟨rfl, trivial⟩ ⟨.ptr 0 2 0 0 rfl, trivial⟩ (fun r ks' hq _ _ => ?_); obtain ⟨rfl, rfl⟩ := hq; conv => whnf))
  · rename_i he
    rw [if_neg he]
    exact RetG.pub (H' := frm l) (Pub.tup3 (pubOb 0 0 0 []) (.same (.int .i64 0) rfl) (.same (.int .i64 xe) rfl)) rfl rfl ⟨by simp [hb, hbL, obC_hb], rfl, rfl⟩
  · rename_i he
    have he : xe = 0 := Decidable.not_not.mp he
    subst he
    rw [if_pos rfl]
    exact RetG.drop (by simp [hb, hbL, obL_hb, obD_hb]) rfl rfl ⟨by simp [hb, hbL, obL_hb, obD_hb], rfl, rfl⟩
end Ink.D

namespace Ink.D
open Go Go.Proofs
set_option maxRecDepth 100000
variable {E : Env} (hE : E.P = Tryz.prog)

include hE
omit hE in
mutual
def countO : Ob → Nat
  | .mk _ _ _ _ l d => 1 + countL l + countD d
def countL : List Ob → Nat
  | [] => 0
  | o :: r => countO o + countL r
def countD : List (List UInt8 × Ob) → Nat
  | [] => 0
  | e :: r => countE e + countD r
def countE : List UInt8 × Ob → Nat
  | (_, o) => countO o
end
omit hE in
theorem countE_eq (e : List UInt8 × Ob) : countE e = countO e.2 := by obtain ⟨a, o⟩ := e; rfl
omit hE in
theorem countD_app (a b : List (List UInt8 × Ob)) : countD (a ++ b) = countD a + countD b := by
  induction a with
  | nil => simp [countD]
  | cons o a ih => simp [countD, ih]; omega
omit hE in
theorem countL_len (l : List Ob) : l.length ≤ countL l := by
  induction l with
  | nil => simp
  | cons o l ih => cases o; simp [countL, countO]; omega
omit hE in
theorem countD_len (l : List (List UInt8 × Ob)) : l.length ≤ countD l := by
  induction l with
  | nil => simp
  | cons e l ih => obtain ⟨a, o⟩ := e; cases o; simp [countD, countE, countO]; omega

end Ink.D

namespace Ink.D
open Go Go.Proofs
set_option maxRecDepth 100000
variable {E : Env} (hE : E.P = Tryz.prog)

include hE
omit hE in
theorem countO_mem {l : List Ob} {o : Ob} (h : o ∈ l) : countO o ≤ countL l := by
  induction l with
  | nil => simp at h
  | cons a l ih =>
    rcases List.mem_cons.mp h with rfl | h
    · simp [countL]
    · have := ih h; simp [countL]; omega
omit hE in
theorem countD_mem {d : List (List UInt8 × Ob)} {e : List UInt8 × Ob} (h : e ∈ d) : countO e.2 ≤ countD d := by
  induction d with
  | nil => simp at h
  | cons a l ih =>
    rcases List.mem_cons.mp h with rfl | h
    · simp [countD, countE_eq]
    · have := ih h; simp [countD]; omega

end Ink.D
