import Derived.Test.YtogcalejbddjjaaGreatDoorTyU1
import Derived.Test.YtogcalejbddjjaaGreatDoorPRefA
import Derived.Test.YtogcalejbddjjaaGreatDoorTyN1
set_option linter.all false
namespace Ink.D
open Go Go.Proofs
set_option maxRecDepth 100000
variable {E : Env} (hE : E.P = Tryz.prog)

theorem setG_app {key : List UInt8} {v : Ob} : ∀ {a b acc : List (List UInt8 × Ob)} {f : Bool}, (∀ e ∈ a, e.1 ≠ key) → setG key v (a ++ b) acc f = setG key v b (acc ++ a) f
  | [], b, acc, f, _ => by simp
  | e :: a, b, acc, f, h => by
    rw [List.cons_append, setG_same (h e (List.mem_cons_self ..)), setG_app fun x hx => h x (List.mem_cons_of_mem _ hx)]
    simp
theorem setG_drop {key : List UInt8} {v : Ob} : ∀ (d acc : List (List UInt8 × Ob)) (f : Bool), (v.kind = 0 ∨ f = true) → setG key v d acc f = (acc ++ dropD key d, f)
  | [], acc, f, _ => by simp [setG, dropD]
  | e :: d, acc, f, h => by
    by_cases he : e.1 = key
    · rw [setG_out he (by rintro ⟨h1, h2⟩; rcases h with h | h; exact h1 h; rw [h] at h2; exact absurd h2 (by decide)), setG_drop d _ _ h]
      simp [dropD, he]
    · rw [setG_same he, setG_drop d _ _ h]
      simp [dropD, he]
theorem dropD_hit {key : List UInt8} {e : List UInt8 × Ob} {d : List (List UInt8 × Ob)} (h : e.1 = key) : dropD key (e :: d) = dropD key d := by simp [dropD, h]
theorem setR_eq (d : List (List UInt8 × Ob)) (key : List UInt8) (v : Ob) : setR d key v = setD d key v := by
  unfold setR setD
  by_cases hv : v.kind = 0
  · rw [if_pos hv, setG_drop d [] false (.inl hv), if_neg (by simp [hv])]
    simp
  · rw [if_neg hv]
    rcases ixK_cases key d 0 with ⟨h1, h2⟩ | ⟨p, hp, h1, h2, h3⟩
    · have e := setG_app (key := key) (v := v) (b := []) (acc := []) (f := false) h2
      rw [List.append_nil, List.nil_append] at e
      have e3 : setG key v [] d false = (d, false) := rfl
      rw [e, e3, if_pos ⟨hv, rfl⟩, h1, if_pos (by decide), dropD_none h2]
    · have hd : d = d.take p ++ d[p] :: d.drop (p + 1) := by rw [← List.drop_eq_getElem_cons hp, List.take_append_drop]
      have e : setG key v d [] false = (d.take p ++ [(key, v)] ++ dropD key (d.drop (p + 1)), true) := by
        conv => lhs; rw [hd]
        rw [setG_app h3, setG_new h2 hv, setG_drop _ _ _ (.inr rfl)]
        simp
      have e2 : dropD key d = d.take p ++ dropD key (d.drop (p + 1)) := by
        conv => lhs; rw [hd]
        rw [dropD_append, dropD_none h3, dropD_hit h2]
      have hlen : (d.take p).length = p := by rw [List.length_take]; omega
      rw [e, h1, if_neg (by simp), if_neg (by omega), e2]
      have h4 : ((0 : Int) + (p : Int)).toNat = p := by omega
      rw [h4, insD, take_len hlen, drop_len hlen]
      simp

include hE
theorem whole266 (t : Tok) : PCalls E 266 [t.av] (· = .bool (wholeT t)) := by
  obtain ⟨k, f, s, w, a, b⟩ := t
  unfold wholeT Tok.av tk
  simp only
  refine p266 hE (fun l => ?_)
  conv => whnf
  repeat' (first
    | (refine And.intro W1 ?_; conv => whnf)
    | (refine brD (fun _ => ?_) (fun _ => ?_) <;> first | (exfalso; omega) | (conv => whnf))
    | (refine brB (fun _ => ?_) (fun _ => ?_) <;> conv => whnf))
  all_goals exact RetG.drop rfl rfl rfl ⟨rfl, by simp_all, rfl⟩

set_option maxHeartbeats 2000000 in
theorem number244 (s : List UInt8) (t : Tok) (hs : s.length < 1000000) : PCalls E 244 [.str s, t.av] (· = prAV ((numO s t t.to).1, (numO s t t.to).2, 0)) := by
  refine PCalls.have (φ := inI64 t.f) (fun c vs h => h.ikA 1 1 rfl rfl) fun hf => ?_
  have hn1 := rnext hE s t.to hs
  have hn2 := rnext hE s (nextL s t.to).1.to hs
  have hw1 := whole266 hE t
  have hw2 := whole266 hE (nextL s t.to).1
  refine p244 hE fun l => ?_
  unfold numO prAV
  have hq : 0 ≤ t.f → inI64 (t.f.tdiv 1000) := fun h0 => by
    rw [Int.tdiv_eq_ediv_of_nonneg h0]
    unfold inI64 at hf ⊢
    omega
  have hwf : wholeT t = true → 0 ≤ t.f := fun h => by unfold wholeT at h; simp at h; exact h.2
  generalize nextL s t.to = x at *
  obtain ⟨⟨xk, xf, xs, xw, xfr, xto⟩, xe⟩ := x
  generalize nextL s ((⟨xk, xf, xs, xw, xfr, xto⟩, xe) : Tok × Int).1.to = y at *
  obtain ⟨⟨yk, yf, ys, yw, yfr, yto⟩, ye⟩ := y
  simp only at *
  generalize hwx : wholeT ⟨xk, xf, xs, xw, xfr, xto⟩ = wx at *
  generalize hwt : wholeT t = wt at *
  obtain ⟨tk_, tf, ts, tw, tfr, tto⟩ := t
  unfold tokAV tkE Tok.av tk at *
  simp only at *
  by_cases hc : wt = true ∧ xe = 0 ∧ wx = true ∧ ye = 0 ∧ yk = 8 ∧ ys = [82]
  · rw [if_pos hc]
    obtain ⟨rfl, rfl, rfl, rfl, rfl, rfl⟩ := hc
    have hq := hq (hwf rfl)
    cases tw
    all_goals (
      conv => whnf
      repeat' (first
        | (refine And.intro W1 ?_; conv => whnf)
        | (refine brD (fun _ => ?_) (fun _ => ?_) <;> first | (exfalso; omega) | (conv => whnf))
        | (refine brB (fun _ => ?_) (fun _ => ?_) <;> conv => whnf)
        | ((first | refine CallG.e hw1 ?_ | refine CallD.e hw1 ?_ | refine CallQ.e hw1 ?_ | refine CallP.e hw1 ?_); conv => whnf)
        | ((first | refine CallG.e hw2 ?_ | refine CallD.e hw2 ?_ | refine CallQ.e hw2 ?_ | refine CallP.e hw2 ?_); conv => whnf)
        | ((first | refine CallG.e hn1 ?_ | refine CallD.e hn1 ?_ | refine CallQ.e hn1 ?_ | refine CallP.e hn1 ?_); conv => whnf)
        | ((first | refine CallG.e hn2 ?_ | refine CallD.e hn2 ?_ | refine CallQ.e hn2 ?_ | refine CallP.e hn2 ?_); conv => whnf)
        | ((first | refine CallG.e hq ?_ | refine CallD.e hq ?_ | refine CallQ.e hq ?_ | refine CallP.e hq ?_); conv => whnf))
      all_goals first | contradiction | exact RetG.pub (Pub.tup3 (pubOb 7 (tf.tdiv 1000) xf []) (.same (.int .i64 yto) rfl) (.same (.int .i64 0) rfl)) rfl rfl ⟨by simp [hb, hbL, obC_hb], rfl, rfl⟩
      skip)
  · rw [if_neg hc]
    cases tw
    all_goals (
      conv => whnf
      repeat' (first
        | (refine And.intro W1 ?_; conv => whnf)
        | (refine brD (fun _ => ?_) (fun _ => ?_) <;> first | (exfalso; omega) | (conv => whnf))
        | (refine brB (fun _ => ?_) (fun _ => ?_) <;> conv => whnf)
        | ((first | refine CallG.e hw1 ?_ | refine CallD.e hw1 ?_ | refine CallQ.e hw1 ?_ | refine CallP.e hw1 ?_); conv => whnf)
        | ((first | refine CallG.e hw2 ?_ | refine CallD.e hw2 ?_ | refine CallQ.e hw2 ?_ | refine CallP.e hw2 ?_); conv => whnf)
        | ((first | refine CallG.e hn1 ?_ | refine CallD.e hn1 ?_ | refine CallQ.e hn1 ?_ | refine CallP.e hn1 ?_); conv => whnf)
        | ((first | refine CallG.e hn2 ?_ | refine CallD.e hn2 ?_ | refine CallQ.e hn2 ?_ | refine CallP.e hn2 ?_); conv => whnf))
      all_goals first | contradiction | exact RetG.pub (Pub.tup3 (pubOb 2 0 tf []) (.same (.int .i64 tto) rfl) (.same (.int .i64 0) rfl)) rfl rfl ⟨by simp [hb, hbL, obC_hb], rfl, rfl⟩ | exact RetG.pub (Pub.tup3 (pubOb 2 1 tf []) (.same (.int .i64 tto) rfl) (.same (.int .i64 0) rfl)) rfl rfl ⟨by simp [hb, hbL, obC_hb], rfl, rfl⟩ | (exfalso; exact hc ⟨by simpa using ‹(!wt) = false›, by omega, by simpa using ‹(!wx) = false›, by omega, by omega, Decidable.not_not.mp ‹¬ys ≠ [82]›⟩))
end Ink.D
