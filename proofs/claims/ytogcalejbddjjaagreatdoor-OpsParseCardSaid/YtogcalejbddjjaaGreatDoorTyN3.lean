import Derived.Test.YtogcalejbddjjaaGreatDoorTyN2
set_option linter.all false
namespace Ink.D
open Go Go.Proofs
set_option maxRecDepth 100000
variable {E : Env} (hE : E.P = Tryz.prog)

/-! operators: ops.Balanced, ops.Wrap -/
def balL : List OpL → Int → Bool → Bool
  | [], deep, text => decide (deep = 0) && !text
  | p :: r, deep, text =>
    if p.1 = [113] then (!text && (decide (0 ≤ deep + 1) && balL r (deep + 1) text))
    else if p.1 = [81] then (!text && (decide (0 ≤ deep - 1) && balL r (deep - 1) text))
    else if p.1 = [66, 84] then (!text && (decide (0 ≤ deep) && balL r deep true))
    else if p.1 = [69, 84] then (text && (decide (0 ≤ deep) && balL r deep false))
    else decide (0 ≤ deep) && balL r deep text

theorem balL_at {l : List OpL} {x : Nat} (h : x < l.length) (deep : Int) (text : Bool) : balL (l.drop x) deep text =
    if l[x].1 = [113] then (!text && (decide (0 ≤ deep + 1) && balL (l.drop (x + 1)) (deep + 1) text))
    else if l[x].1 = [81] then (!text && (decide (0 ≤ deep - 1) && balL (l.drop (x + 1)) (deep - 1) text))
    else if l[x].1 = [66, 84] then (!text && (decide (0 ≤ deep) && balL (l.drop (x + 1)) deep true))
    else if l[x].1 = [69, 84] then (text && (decide (0 ≤ deep) && balL (l.drop (x + 1)) deep false))
    else decide (0 ≤ deep) && balL (l.drop (x + 1)) deep text := by
  rw [List.drop_eq_getElem_cons h, balL]

def wrapF : List OpL → Int → Int → Int × Int
  | [], d, l => (d, l)
  | p :: r, d, l =>
    if p.1 = [113] then wrapF r (d + 1) (if d + 1 < l then d + 1 else l)
    else if p.1 = [81] then wrapF r (d - 1) (if d - 1 < l then d - 1 else l)
    else wrapF r d (if d < l then d else l)
theorem wrapF_at {l : List OpL} {x : Nat} (h : x < l.length) (d m : Int) : wrapF (l.drop x) d m =
    if l[x].1 = [113] then wrapF (l.drop (x + 1)) (d + 1) (if d + 1 < m then d + 1 else m)
    else if l[x].1 = [81] then wrapF (l.drop (x + 1)) (d - 1) (if d - 1 < m then d - 1 else m)
    else wrapF (l.drop (x + 1)) d (if d < m then d else m) := by
  rw [List.drop_eq_getElem_cons h, wrapF]

abbrev opQ : OpL := ([113], [])
abbrev opC : OpL := ([81], [])
def wrapOL (l : List OpL) : List OpL := List.replicate (1 - (wrapF l 0 0).2).toNat opQ ++ l ++ List.replicate (1 + (wrapF l 0 0).1 - (wrapF l 0 0).2).toNat opC

theorem opE_at (p : OpL) : opE p = [.str p.1, .imm 6 (obL p.2)] := rfl

include hE
set_option maxHeartbeats 4000000 in
theorem balanced30 (ops : List OpL) (hl : ops.length < big) : PCalls E 30 [.imm 2 (opLs ops)] (· = .bool (balL ops 0 false)) := by
  have hlL := opLs_len ops
  have hL : ∀ n0, hbLL n0 (opLs ops) = true := fun n0 => opLs_hb ops
  unfold big at hl
  generalize hR : balL ops 0 false = R
  refine p30 hE (fun l => ?_) (by simp [hbL, hb, hL])
  conv => whnf
  repeat' (first
    | (refine And.intro W1 ?_; conv => whnf)
    | (refine brD (fun _ => ?_) (fun _ => ?_) <;> first | (exfalso; omega) | (conv => whnf))
    | (refine brB (fun _ => ?_) (fun _ => ?_) <;> conv => whnf))
  refine LoopG.s (fun x : Nat × Int × Bool => x.1 ≤ ops.length ∧ (0 ≤ x.2.1 ∧ x.2.1 ≤ x.1) ∧ balL (ops.drop x.1) x.2.1 x.2.2 = R) 70 (fun x => [(3, .int .i64 x.2.1), (4, .bool x.2.2), (7, .imm 2 (opLs ops)), (8, .int .i64 (opLs ops).length), (9, .int .i64 x.1)]) (fun _ => frm l) (fun x => ops.length - x.1) (0, 0, false) ⟨by simp, by simp, by simpa using hR⟩ rfl ⟨rfl, rfl, rfl, rfl, rfl⟩ rfl ?_
  clear hR
  rintro ⟨x, deep, text⟩ ⟨h1, ⟨hd0, hd1⟩, h2⟩
  dsimp only at h1 hd0 hd1 h2 ⊢
  by_cases hx : x < ops.length
  · have hg := opLs_at hx
    rw [opE_at] at hg
    have hk := balL_at hx deep text
    rw [h2] at hk
    clear h2
    generalize ops[x] = op at *
    obtain ⟨nm, args⟩ := op
    simp only at hg hk
    have hi : inI64 (deep + 1) := by unfold inI64; omega
    have hi2 : inI64 (deep - 1) := by unfold inI64; omega
    have hA : ∀ n0, hbLL n0 (obL args) = true := fun n0 => obL_hb args
    by_cases q1 : nm = [113]
    · subst q1
      rw [if_pos rfl] at hk
      cases text
      · rw [decide_eq_true (by omega)] at hk
        conv => whnf
        repeat' (first
          | (rw [hg]; conv => whnf)
          | (refine And.intro W1 ?_; conv => whnf)
          | (refine brD (fun _ => ?_) (fun _ => ?_) <;> first | (exfalso; omega) | (conv => whnf))
          | (refine brB (fun _ => ?_) (fun _ => ?_) <;> conv => whnf))
        exact ⟨(x + 1, deep + 1, false), ⟨⟨by simp only; omega, by simp only; omega, by simpa using hk.symm⟩, by simp only; omega⟩, Wk.cut 1 rfl rfl rfl ⟨⟨_, rfl, .same _ rfl⟩, ⟨_, rfl, .same _ rfl⟩, ⟨_, rfl, .same _ (hL 1)⟩, ⟨_, rfl, .same _ rfl⟩, ⟨_, rfl, .same _ rfl⟩, trivial⟩ rfl rfl⟩
      · conv => whnf
        repeat' (first
          | (rw [hg]; conv => whnf)
          | (refine And.intro W1 ?_; conv => whnf)
          | (refine brD (fun _ => ?_) (fun _ => ?_) <;> first | (exfalso; omega) | (conv => whnf))
          | (refine brB (fun _ => ?_) (fun _ => ?_) <;> conv => whnf))
        exact RetG.drop rfl rfl rfl ⟨rfl, by rw [hk]; rfl, rfl⟩
    · rw [if_neg q1] at hk
      by_cases q2 : nm = [81]
      · subst q2
        rw [if_pos rfl] at hk
        cases text
        · by_cases hd : 0 ≤ deep - 1
          · rw [decide_eq_true hd] at hk
            conv => whnf
            repeat' (first
              | (rw [hg]; conv => whnf)
              | (refine And.intro W1 ?_; conv => whnf)
              | (refine brD (fun _ => ?_) (fun _ => ?_) <;> first | (exfalso; omega) | (conv => whnf))
              | (refine brB (fun _ => ?_) (fun _ => ?_) <;> conv => whnf))
            exact ⟨(x + 1, deep - 1, false), ⟨⟨by simp only; omega, by simp only; omega, by simpa using hk.symm⟩, by simp only; omega⟩, Wk.cut 1 rfl rfl rfl ⟨⟨_, rfl, .same _ rfl⟩, ⟨_, rfl, .same _ rfl⟩, ⟨_, rfl, .same _ (hL 1)⟩, ⟨_, rfl, .same _ rfl⟩, ⟨_, rfl, .same _ rfl⟩, trivial⟩ rfl rfl⟩
          · rw [decide_eq_false hd] at hk
            conv => whnf
            repeat' (first
              | (rw [hg]; conv => whnf)
              | (refine And.intro W1 ?_; conv => whnf)
              | (refine brD (fun _ => ?_) (fun _ => ?_) <;> first | (exfalso; omega) | (conv => whnf))
              | (refine brB (fun _ => ?_) (fun _ => ?_) <;> conv => whnf))
            exact RetG.drop rfl rfl rfl ⟨rfl, by rw [hk]; rfl, rfl⟩
        · conv => whnf
          repeat' (first
            | (rw [hg]; conv => whnf)
            | (refine And.intro W1 ?_; conv => whnf)
            | (refine brD (fun _ => ?_) (fun _ => ?_) <;> first | (exfalso; omega) | (conv => whnf))
            | (refine brB (fun _ => ?_) (fun _ => ?_) <;> conv => whnf))
          exact RetG.drop rfl rfl rfl ⟨rfl, by rw [hk]; rfl, rfl⟩
      · rw [if_neg q2] at hk
        by_cases q3 : nm = [66, 84]
        · subst q3
          rw [if_pos rfl] at hk
          cases text
          · rw [decide_eq_true hd0] at hk
            conv => whnf
            repeat' (first
              | (rw [hg]; conv => whnf)
              | (refine And.intro W1 ?_; conv => whnf)
              | (refine brD (fun _ => ?_) (fun _ => ?_) <;> first | (exfalso; omega) | (conv => whnf))
              | (refine brB (fun _ => ?_) (fun _ => ?_) <;> conv => whnf))
            exact ⟨(x + 1, deep, true), ⟨⟨by simp only; omega, by simp only; omega, by simpa using hk.symm⟩, by simp only; omega⟩, Wk.cut 1 rfl rfl rfl ⟨⟨_, rfl, .same _ rfl⟩, ⟨_, rfl, .same _ rfl⟩, ⟨_, rfl, .same _ (hL 1)⟩, ⟨_, rfl, .same _ rfl⟩, ⟨_, rfl, .same _ rfl⟩, trivial⟩ rfl rfl⟩
          · conv => whnf
            repeat' (first
              | (rw [hg]; conv => whnf)
              | (refine And.intro W1 ?_; conv => whnf)
              | (refine brD (fun _ => ?_) (fun _ => ?_) <;> first | (exfalso; omega) | (conv => whnf))
              | (refine brB (fun _ => ?_) (fun _ => ?_) <;> conv => whnf))
            exact RetG.drop rfl rfl rfl ⟨rfl, by rw [hk]; rfl, rfl⟩
        · rw [if_neg q3] at hk
          by_cases q4 : nm = [69, 84]
          · subst q4
            rw [if_pos rfl] at hk
            cases text
            · conv => whnf
              repeat' (first
                | (rw [hg]; conv => whnf)
                | (refine And.intro W1 ?_; conv => whnf)
                | (refine brD (fun _ => ?_) (fun _ => ?_) <;> first | (exfalso; omega) | (conv => whnf))
                | (refine brB (fun _ => ?_) (fun _ => ?_) <;> conv => whnf))
              exact RetG.drop rfl rfl rfl ⟨rfl, by rw [hk]; rfl, rfl⟩
            · rw [decide_eq_true hd0] at hk
              conv => whnf
              repeat' (first
                | (rw [hg]; conv => whnf)
                | (refine And.intro W1 ?_; conv => whnf)
                | (refine brD (fun _ => ?_) (fun _ => ?_) <;> first | (exfalso; omega) | (conv => whnf))
                | (refine brB (fun _ => ?_) (fun _ => ?_) <;> conv => whnf))
              exact ⟨(x + 1, deep, false), ⟨⟨by simp only; omega, by simp only; omega, by simpa using hk.symm⟩, by simp only; omega⟩, Wk.cut 1 rfl rfl rfl ⟨⟨_, rfl, .same _ rfl⟩, ⟨_, rfl, .same _ rfl⟩, ⟨_, rfl, .same _ (hL 1)⟩, ⟨_, rfl, .same _ rfl⟩, ⟨_, rfl, .same _ rfl⟩, trivial⟩ rfl rfl⟩
          · rw [if_neg q4, decide_eq_true hd0] at hk
            have d1 := decide_eq_false q1
            have d2 := decide_eq_false q2
            have d3 := decide_eq_false q3
            have d4 := decide_eq_false q4
            cases text
            · conv => whnf
              repeat' (first
                | (rw [hg]; conv => whnf)
                | (refine And.intro W1 ?_; conv => whnf)
                | (refine brD (fun _ => ?_) (fun _ => ?_) <;> first | (exfalso; omega) | (conv => whnf))
                | (refine brB (fun _ => ?_) (fun _ => ?_) <;> conv => whnf))
              all_goals first | contradiction | skip
              exact ⟨(x + 1, deep, false), ⟨⟨by simp only; omega, by simp only; omega, by simpa using hk.symm⟩, by simp only; omega⟩, Wk.cut 1 rfl rfl rfl ⟨⟨_, rfl, .same _ rfl⟩, ⟨_, rfl, .same _ rfl⟩, ⟨_, rfl, .same _ (hL 1)⟩, ⟨_, rfl, .same _ rfl⟩, ⟨_, rfl, .same _ rfl⟩, trivial⟩ rfl rfl⟩
            · conv => whnf
              repeat' (first
                | (rw [hg]; conv => whnf)
                | (refine And.intro W1 ?_; conv => whnf)
                | (refine brD (fun _ => ?_) (fun _ => ?_) <;> first | (exfalso; omega) | (conv => whnf))
                | (refine brB (fun _ => ?_) (fun _ => ?_) <;> conv => whnf))
              all_goals first | contradiction | skip
              exact ⟨(x + 1, deep, true), ⟨⟨by simp only; omega, by simp only; omega, by simpa using hk.symm⟩, by simp only; omega⟩, Wk.cut 1 rfl rfl rfl ⟨⟨_, rfl, .same _ rfl⟩, ⟨_, rfl, .same _ rfl⟩, ⟨_, rfl, .same _ (hL 1)⟩, ⟨_, rfl, .same _ rfl⟩, ⟨_, rfl, .same _ rfl⟩, trivial⟩ rfl rfl⟩
  · have : x = ops.length := by omega
    subst this
    rw [List.drop_length] at h2
    unfold balL at h2
    conv => whnf
    repeat' (first
      | (refine And.intro W1 ?_; conv => whnf)
      | (refine brD (fun _ => ?_) (fun _ => ?_) <;> first | (exfalso; omega) | (conv => whnf))
      | (refine brB (fun _ => ?_) (fun _ => ?_) <;> conv => whnf))
    all_goals exact RetG.q ⟨rfl, by rw [← h2]; simp_all, rfl⟩
end Ink.D
