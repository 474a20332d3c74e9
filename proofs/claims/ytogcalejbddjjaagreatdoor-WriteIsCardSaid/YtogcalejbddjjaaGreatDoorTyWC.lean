import Derived.Test.YtogcalejbddjjaaGreatDoorTyWB
set_option linter.all false
namespace Ink.D
open Go Go.Proofs
set_option maxRecDepth 100000
variable {E : Env} (hE : E.P = Tryz.prog)

def keysD (d : List (List UInt8 × Ob)) : List (List UInt8) := d.map (·.1)
theorem entL_step {d : List (List UInt8 × Ob)} {x : Nat} (h : x < d.length) : entL (keysD (d.take x)) (d.drop x) = if d[x].2.kind = 0 ∨ d[x].1 ∈ keysD (d.take x) then 1 else entL (keysD (d.take (x + 1))) (d.drop (x + 1)) := by
  rw [List.drop_eq_getElem_cons h]
  conv => lhs; unfold entL
  have e : keysD (d.take (x + 1)) = keysD (d.take x) ++ [d[x].1] := by
    unfold keysD
    rw [List.take_succ_eq_append_getElem h, List.map_append]
    rfl
  rw [e]
theorem keys_mem {d : List (List UInt8 × Ob)} {x y : Nat} (hx : x < d.length) (hy : y < x) : d[y].1 ∈ keysD (d.take x) := by
  unfold keysD
  rw [List.mem_map]
  refine ⟨d[y], ?_, rfl⟩
  rw [List.mem_take_iff_getElem]
  exact ⟨y, by omega, rfl⟩
theorem keys_not {d : List (List UInt8 × Ob)} {x : Nat} {a : List UInt8} (hx : x ≤ d.length) (h : ∀ y (hy : y < x), d[y].1 ≠ a) : a ∉ keysD (d.take x) := by
  unfold keysD
  rw [List.mem_map]
  rintro ⟨e, he, rfl⟩
  rw [List.mem_take_iff_getElem] at he
  obtain ⟨y, hy, rfl⟩ := he
  exact h y (by omega) rfl

include hE
set_option maxHeartbeats 8000000 in
theorem ownD6 {n f : Int} {s : List UInt8} {l_ : List Ob} {d : List (List UInt8 × Ob)} {deep : Int} (hl : l_.length < big) (hd : d.length < big) :
    PCalls E 114 [.agg (obC (.mk 6 n f s l_ d)), .int .i64 deep] (· = .int .i64 (ownL 6 n f l_.length d deep)) := by
  have hll := obL_len l_
  have hdl := obD_length d
  have hL : ∀ n0, hbLL n0 (obL l_) = true := fun n0 => obL_hb l_
  have hD : ∀ n0, hbLL n0 (obD d) = true := fun n0 => obD_hb d
  unfold big at hl hd
  refine p114 hE (fun l => ?_) (by simp [hbL, hb, obC_hb])
  unfold obC
  rw [own_6]
  generalize hR : entL [] d = R
  conv => whnf
  repeat' (first
    | (refine And.intro W1 ?_; conv => whnf)
    | (refine brD (fun _ => ?_) (fun _ => ?_) <;> first | (exfalso; omega) | (conv => whnf))
    | (refine brB (fun _ => ?_) (fun _ => ?_) <;> conv => whnf))
  all_goals first | exact RetG.drop rfl rfl rfl ⟨rfl, congrArg (AV.int .i64) (by (repeat' split) <;> first | rfl | omega), rfl⟩ | skip
  refine LoopG.s (fun x : Nat => x ≤ d.length ∧ entL (keysD (d.take x)) (d.drop x) = R) 175 (fun x => [(1, .int .i64 deep), (2, .ptr 1 0 0), (4, .int .i64 0), (6, .int .i64 x)]) (fun _ => [⟨0, true, .frame l⟩, ⟨0, true, .cells 26 [.int .i64 6, .int .i64 n, .int .i64 f, .str s, .imm 6 (obL l_), .imm 7 (obD d)]⟩]) (fun x => d.length - x) 0 ⟨by omega, hR⟩ rfl ⟨rfl, rfl, rfl, rfl⟩ rfl ?_
  clear hR
  rintro x ⟨h1, h2⟩
  by_cases hx : x < d.length
  · have hg := obD_get hx
    rw [entL_step hx] at h2
    have hnot := keys_not (a := d[x].1) (Nat.le_of_lt hx)
    have hmem := fun y (hy : y < x) => keys_mem hx hy
    have hgy := fun y (hy : y < x) => obD_get (show y < d.length by omega)
    generalize hex : d[x] = e at *
    obtain ⟨ek, eo⟩ := e
    obtain ⟨k1, n1, f1, s1, l1, d1⟩ := eo
    unfold obE obC at hg
    have h2 : (if k1 = 0 ∨ ek ∈ keysD (d.take x) then 1 else entL (keysD (d.take (x + 1))) (d.drop (x + 1))) = R := h2
    have hnot : (∀ y (hy : y < x), d[y].1 ≠ ek) → ek ∉ keysD (d.take x) := hnot
    conv => whnf
    repeat' (first
      | (rw [hg]; conv => whnf)
      | (refine And.intro W1 ?_; conv => whnf)
      | (refine brD (fun _ => ?_) (fun _ => ?_) <;> first | (exfalso; omega) | (conv => whnf))
      | (refine brB (fun _ => ?_) (fun _ => ?_) <;> conv => whnf))
    · rw [if_pos (.inl (by assumption))] at h2
      subst h2
      exact RetG.drop rfl rfl rfl ⟨rfl, congrArg (AV.int .i64) (by (repeat' split) <;> first | rfl | omega), rfl⟩
    rename_i hk1
    refine LoopG.s (fun y : Nat => y ≤ x ∧ ∀ j (hj : j < y), ∀ (hj2 : j < d.length), d[j].1 ≠ ek) 175 (fun y => [(1, .int .i64 deep), (2, .ptr 1 0 0), (4, .int .i64 0), (6, .int .i64 x), (7, .int .i64 y)]) (fun _ => [⟨0, true, .frame l⟩, ⟨0, true, .cells 26 [.int .i64 6, .int .i64 n, .int .i64 f, .str s, .imm 6 (obL l_), .imm 7 (obD d)]⟩]) (fun y => x - y) 0 ⟨by omega, fun j hj => absurd hj (by omega)⟩ rfl ⟨rfl, rfl, rfl, rfl, rfl⟩ rfl ?_
    rintro y ⟨j1, j2⟩
    by_cases hy : y < x
    · have hgy := hgy y hy
      have hmem := hmem y hy
      have j3 := fun (h : d[y].1 ≠ ek) => (show ∀ j (hj : j < y + 1), ∀ (hj2 : j < d.length), d[j].1 ≠ ek from fun j hj hj2 => by
        by_cases hjy : j = y
        · subst hjy; exact h
        · exact j2 j (by omega) hj2)
      generalize d[y] = e2 at *
      obtain ⟨ek2, eo2⟩ := e2
      obtain ⟨k2, n2, f2, s2, l2, d2⟩ := eo2
      unfold obE obC at hgy
      have hmem : ek2 ∈ keysD (d.take x) := hmem
      have j3 : ek2 ≠ ek → ∀ j (hj : j < y + 1), ∀ (hj2 : j < d.length), d[j].1 ≠ ek := j3
      conv => whnf
      repeat' (first
        | (rw [hg]; conv => whnf)
        | (rw [hgy]; conv => whnf)
        | (refine And.intro W1 ?_; conv => whnf)
        | (refine brD (fun _ => ?_) (fun _ => ?_) <;> first | (exfalso; omega) | (conv => whnf))
        | (refine brB (fun _ => ?_) (fun _ => ?_) <;> conv => whnf))
      · rename_i hh
        subst hh
        rw [if_pos (.inr hmem)] at h2
        subst h2
        exact RetG.drop rfl rfl rfl ⟨rfl, congrArg (AV.int .i64) (by (repeat' split) <;> first | rfl | omega), rfl⟩
      · rename_i hh
        exact ⟨y + 1, ⟨⟨by omega, j3 hh⟩, by omega⟩, Wk.slots rfl ⟨rfl, rfl, rfl, rfl, rfl⟩⟩
    · have hyx : y = x := by omega
      subst hyx
      rw [if_neg (by
        rintro (h | h)
        · exact hk1 h
        · exact hnot (fun j hj => j2 j hj (by omega)) h)] at h2
      conv => whnf
      repeat' (first
        | (refine And.intro W1 ?_; conv => whnf)
        | (refine brD (fun _ => ?_) (fun _ => ?_) <;> first | (exfalso; omega) | (conv => whnf))
        | (refine brB (fun _ => ?_) (fun _ => ?_) <;> conv => whnf))
      exact ⟨y + 1, ⟨⟨by omega, h2⟩, by omega⟩, Wk.slots rfl ⟨rfl, rfl, rfl, rfl⟩⟩
  · have : x = d.length := by omega
    subst this
    rw [List.drop_length] at h2
    have h2 : R = 0 := by rw [← h2]; rfl
    subst h2
    conv => whnf
    repeat' (first
      | (refine And.intro W1 ?_; conv => whnf)
      | (refine brD (fun _ => ?_) (fun _ => ?_) <;> first | (exfalso; omega) | (conv => whnf))
      | (refine brB (fun _ => ?_) (fun _ => ?_) <;> conv => whnf))
    all_goals first | exact RetG.drop rfl rfl rfl ⟨rfl, congrArg (AV.int .i64) (by (repeat' split) <;> first | rfl | omega), rfl⟩ | skip
set_option maxHeartbeats 8000000 in
theorem ownD8 {n f : Int} {s : List UInt8} {l_ : List Ob} {d : List (List UInt8 × Ob)} {deep : Int} (hl : l_.length < big) (hd : d.length < big) :
    PCalls E 114 [.agg (obC (.mk 8 n f s l_ d)), .int .i64 deep] (· = .int .i64 (ownL 8 n f l_.length d deep)) := by
  have hll := obL_len l_
  have hdl := obD_length d
  have hL : ∀ n0, hbLL n0 (obL l_) = true := fun n0 => obL_hb l_
  have hD : ∀ n0, hbLL n0 (obD d) = true := fun n0 => obD_hb d
  unfold big at hl hd
  refine p114 hE (fun l => ?_) (by simp [hbL, hb, obC_hb])
  unfold obC
  rw [own_8]
  generalize hR : entL [] d = R
  conv => whnf
  repeat' (first
    | (refine And.intro W1 ?_; conv => whnf)
    | (refine brD (fun _ => ?_) (fun _ => ?_) <;> first | (exfalso; omega) | (conv => whnf))
    | (refine brB (fun _ => ?_) (fun _ => ?_) <;> conv => whnf))
  all_goals first | exact RetG.drop rfl rfl rfl ⟨rfl, congrArg (AV.int .i64) (by (repeat' split) <;> first | rfl | omega), rfl⟩ | skip
  refine LoopG.s (fun x : Nat => x ≤ d.length ∧ entL (keysD (d.take x)) (d.drop x) = R) 175 (fun x => [(1, .int .i64 deep), (2, .ptr 1 0 0), (4, .int .i64 0), (6, .int .i64 x)]) (fun _ => [⟨0, true, .frame l⟩, ⟨0, true, .cells 26 [.int .i64 8, .int .i64 n, .int .i64 f, .str s, .imm 6 (obL l_), .imm 7 (obD d)]⟩]) (fun x => d.length - x) 0 ⟨by omega, hR⟩ rfl ⟨rfl, rfl, rfl, rfl⟩ rfl ?_
  clear hR
  rintro x ⟨h1, h2⟩
  by_cases hx : x < d.length
  · have hg := obD_get hx
    rw [entL_step hx] at h2
    have hnot := keys_not (a := d[x].1) (Nat.le_of_lt hx)
    have hmem := fun y (hy : y < x) => keys_mem hx hy
    have hgy := fun y (hy : y < x) => obD_get (show y < d.length by omega)
    generalize hex : d[x] = e at *
    obtain ⟨ek, eo⟩ := e
    obtain ⟨k1, n1, f1, s1, l1, d1⟩ := eo
    unfold obE obC at hg
    have h2 : (if k1 = 0 ∨ ek ∈ keysD (d.take x) then 1 else entL (keysD (d.take (x + 1))) (d.drop (x + 1))) = R := h2
    have hnot : (∀ y (hy : y < x), d[y].1 ≠ ek) → ek ∉ keysD (d.take x) := hnot
    conv => whnf
    repeat' (first
      | (rw [hg]; conv => whnf)
      | (refine And.intro W1 ?_; conv => whnf)
      | (refine brD (fun _ => ?_) (fun _ => ?_) <;> first | (exfalso; omega) | (conv => whnf))
      | (refine brB (fun _ => ?_) (fun _ => ?_) <;> conv => whnf))
    · rw [if_pos (.inl (by assumption))] at h2
      subst h2
      exact RetG.drop rfl rfl rfl ⟨rfl, congrArg (AV.int .i64) (by (repeat' split) <;> first | rfl | omega), rfl⟩
    rename_i hk1
    refine LoopG.s (fun y : Nat => y ≤ x ∧ ∀ j (hj : j < y), ∀ (hj2 : j < d.length), d[j].1 ≠ ek) 175 (fun y => [(1, .int .i64 deep), (2, .ptr 1 0 0), (4, .int .i64 0), (6, .int .i64 x), (7, .int .i64 y)]) (fun _ => [⟨0, true, .frame l⟩, ⟨0, true, .cells 26 [.int .i64 8, .int .i64 n, .int .i64 f, .str s, .imm 6 (obL l_), .imm 7 (obD d)]⟩]) (fun y => x - y) 0 ⟨by omega, fun j hj => absurd hj (by omega)⟩ rfl ⟨rfl, rfl, rfl, rfl, rfl⟩ rfl ?_
    rintro y ⟨j1, j2⟩
    by_cases hy : y < x
    · have hgy := hgy y hy
      have hmem := hmem y hy
      have j3 := fun (h : d[y].1 ≠ ek) => (show ∀ j (hj : j < y + 1), ∀ (hj2 : j < d.length), d[j].1 ≠ ek from fun j hj hj2 => by
        by_cases hjy : j = y
        · subst hjy; exact h
        · exact j2 j (by omega) hj2)
      generalize d[y] = e2 at *
      obtain ⟨ek2, eo2⟩ := e2
      obtain ⟨k2, n2, f2, s2, l2, d2⟩ := eo2
      unfold obE obC at hgy
      have hmem : ek2 ∈ keysD (d.take x) := hmem
      have j3 : ek2 ≠ ek → ∀ j (hj : j < y + 1), ∀ (hj2 : j < d.length), d[j].1 ≠ ek := j3
      conv => whnf
      repeat' (first
        | (rw [hg]; conv => whnf)
        | (rw [hgy]; conv => whnf)
        | (refine And.intro W1 ?_; conv => whnf)
        | (refine brD (fun _ => ?_) (fun _ => ?_) <;> first | (exfalso; omega) | (conv => whnf))
        | (refine brB (fun _ => ?_) (fun _ => ?_) <;> conv => whnf))
      · rename_i hh
        subst hh
        rw [if_pos (.inr hmem)] at h2
        subst h2
        exact RetG.drop rfl rfl rfl ⟨rfl, congrArg (AV.int .i64) (by (repeat' split) <;> first | rfl | omega), rfl⟩
      · rename_i hh
        exact ⟨y + 1, ⟨⟨by omega, j3 hh⟩, by omega⟩, Wk.slots rfl ⟨rfl, rfl, rfl, rfl, rfl⟩⟩
    · have hyx : y = x := by omega
      subst hyx
      rw [if_neg (by
        rintro (h | h)
        · exact hk1 h
        · exact hnot (fun j hj => j2 j hj (by omega)) h)] at h2
      conv => whnf
      repeat' (first
        | (refine And.intro W1 ?_; conv => whnf)
        | (refine brD (fun _ => ?_) (fun _ => ?_) <;> first | (exfalso; omega) | (conv => whnf))
        | (refine brB (fun _ => ?_) (fun _ => ?_) <;> conv => whnf))
      exact ⟨y + 1, ⟨⟨by omega, h2⟩, by omega⟩, Wk.slots rfl ⟨rfl, rfl, rfl, rfl⟩⟩
  · have : x = d.length := by omega
    subst this
    rw [List.drop_length] at h2
    have h2 : R = 0 := by rw [← h2]; rfl
    subst h2
    conv => whnf
    repeat' (first
      | (refine And.intro W1 ?_; conv => whnf)
      | (refine brD (fun _ => ?_) (fun _ => ?_) <;> first | (exfalso; omega) | (conv => whnf))
      | (refine brB (fun _ => ?_) (fun _ => ?_) <;> conv => whnf))
    all_goals first | exact RetG.drop rfl rfl rfl ⟨rfl, congrArg (AV.int .i64) (by (repeat' split) <;> first | rfl | omega), rfl⟩ | skip
end Ink.D
