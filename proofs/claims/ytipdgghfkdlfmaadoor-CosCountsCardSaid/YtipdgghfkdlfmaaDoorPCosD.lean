import Derived.Test.YtipdgghfkdlfmaaDoorPCosC
set_option linter.all false
namespace Ink.D
open Go Go.Proofs
set_option maxRecDepth 100000
set_option linter.unusedSimpArgs false
set_option linter.unusedVariables false
variable {E : Env} (hE : E.P = Tryd.prog)

abbrev kbT : List UInt8 := [97, 98, 99, 100, 101, 102, 103, 104, 105, 106, 107, 108, 109, 110, 111, 112, 113, 114, 115, 116, 117, 118, 119, 120, 121, 122, 65, 66, 67, 68, 69, 70, 71]

def keyN (i : Nat) : List UInt8 := (kbT.drop i).take 1
def entN (i : Nat) : List UInt8 × Ob := (keyN i, .mk 2 1 (1000 * i) [] [] [])
def dicN (k : Nat) : List (List UInt8 × Ob) := (List.range k).map entN

theorem keyN_inj : ∀ i j : Fin 33, keyN i = keyN j → i = j := by decide +kernel
theorem keyN_ne {i j : Nat} (hi : i < 33) (hj : j < 33) (h : i ≠ j) : keyN i ≠ keyN j := fun e => h (congrArg Fin.val (keyN_inj ⟨i, hi⟩ ⟨j, hj⟩ e))
theorem dicN_len (k : Nat) : (dicN k).length = k := by simp [dicN]
theorem dicN_at {k j : Nat} (h : j < (dicN k).length) : (dicN k)[j] = entN j := by simp [dicN]

theorem intO_n (i : Nat) (hi : i < 33) : intO i = .mk 2 1 (1000 * i) [] [] [] := by
  have h : mayF i = true := by simp [mayF]; omega
  have h2 : mayF ((i : Int) * 1000) = true := by simp [mayF]; omega
  unfold intO intR told
  rw [h, h2]
  simp
  omega

theorem dicN_set (i : Nat) (hi : i < 33) : setD (dicN i) (keyN i) (.mk 2 1 (1000 * i) [] [] []) = dicN (i + 1) := by
  have hn : ∀ e ∈ dicN i, e.1 ≠ keyN i := by
    intro e he
    obtain ⟨j, hj, rfl⟩ := List.mem_map.mp he
    have := List.mem_range.mp hj
    exact keyN_ne (by omega) hi (by omega)
  have hx : ixK (keyN i) (dicN i) 0 < 0 := by
    rcases ixK_cases (keyN i) (dicN i) 0 with ⟨h, _⟩ | ⟨p, hp, h, h4, _⟩
    · omega
    · exact absurd h4 (hn _ (List.getElem_mem hp))
  unfold setD
  rw [if_neg (by simp [Ob.kind]), if_pos hx, dropD_none hn]
  simp [dicN, List.range_succ, entN]

theorem dicN_get (k j : Nat) (hk : k < 33) (hj : j < k) (K : Int) (hK : K = 6 ∨ K = 8) : getL (.mk K 0 0 [] [] (dicN k)) (keyN j) = .mk 2 1 (1000 * j) [] [] [] := by
  show (if K = 6 ∨ K = 8 then getD' (dicN k) (keyN j) else ob00) = _
  rw [if_pos hK]
  have hl := dicN_len k
  rcases ixK_cases (keyN j) (dicN k) 0 with ⟨_, h⟩ | ⟨p, hp, h, h4, _⟩
  · exact absurd (by rw [dicN_at (by omega)]; rfl) (h ((dicN k)[j]'(by omega)) (List.getElem_mem _))
  · rw [dicN_at hp] at h4
    have : p = j := by
      rcases Nat.decEq p j with h5 | h5
      · exact absurd h4 (keyN_ne (by omega) (by omega) h5)
      · exact h5
    subst this
    rw [getD'_at (p := p) (by rw [h]; omega) hp, dicN_at hp]
    rfl

theorem dicN_drop (k j : Nat) (hk : k < 33) (hj : j < k) : setD ((dicN k).drop j) (keyN j) ob00 = (dicN k).drop (j + 1) := by
  have hl := dicN_len k
  unfold setD
  rw [if_pos (show ob00.kind = 0 from rfl), List.drop_eq_getElem_cons (by omega)]
  rw [show dropD (keyN j) ((dicN k)[j]'(by omega) :: (dicN k).drop (j + 1)) = dropD (keyN j) ((dicN k).drop (j + 1)) by
    unfold dropD; rw [List.filter_cons_of_neg]; rw [dicN_at]; simp [entN]]
  refine dropD_none ?_
  intro e he
  obtain ⟨q, hq, rfl⟩ := List.mem_iff_getElem.mp he
  rw [List.getElem_drop, dicN_at]
  rw [List.length_drop] at hq
  exact keyN_ne (by omega) (by omega) (by omega)

theorem dicN_count (k : Nat) (K : Int) : countO (.mk K 0 0 [] [] (dicN k)) = k + 1 := by
  have h : countD (dicN k) = k := by
    induction k with
    | zero => simp [dicN, countD]
    | succ k ih =>
      have e : dicN (k + 1) = dicN k ++ [entN k] := by simp [dicN, List.range_succ]
      rw [e, countD_app, ih]
      simp [countD, entN, countE, countO, countL]
  simp [countO, countL, h]; omega

theorem keyN_eq (x : Nat) : List.take (((x : Int) + 1).toNat - (x : Int).toNat) (List.drop (x : Int).toNat kbT) = keyN x := by
  have h : ((x : Int) + 1).toNat - (x : Int).toNat = 1 := by omega
  rw [h, Int.toNat_natCast]; rfl

include hE
set_option maxHeartbeats 4000000 in
theorem cosCounts (n m : Int) : PCalls E 11 [.int .i64 n, .int .i64 m] (· = .bool true) := by
  have hk : 0 ≤ bits .and .i64 n 31 ∧ bits .and .i64 n 31 ≤ 31 := and_low2 n 31 (by decide)
  obtain ⟨kk, hkk⟩ : ∃ kk : Nat, bits .and .i64 n 31 = kk := ⟨(bits .and .i64 n 31).toNat, by have := hk.1; omega⟩
  rw [hkk] at hk
  have hA := awake30 hE
  refine p11 hE fun l => ?_
  generalize hbm : bits .and .i64 m 1 = bm
  conv => whnf
  repeat' (first
    | (rw [hkk]; conv => whnf)
    | (rw [hbm]; conv => whnf)
    | (refine And.intro ?_ ?_; (focus (first | omega | decide | (unfold inI64; omega) | (simp only [List.length_append, List.length_cons, List.length_nil] <;> omega) | (refine ⟨?_, ?_⟩ <;> omega) | (refine ⟨?_, ?_, ?_, ?_, ?_, ?_⟩ <;> first | rfl | trivial | decide | omega | (simp [bytesAV_length] <;> omega)) | (simp <;> omega) | (unfold inI64; simp only [List.length_append, List.length_cons, List.length_nil] <;> omega))); conv => whnf)
    | (refine brD (fun _ => ?_) (fun _ => ?_) <;> first | (exfalso; omega) | (conv => whnf))
    | (refine brB (fun _ => ?_) (fun _ => ?_) <;> conv => whnf)
    | ((first | refine CallG.e (hA) ?_ | refine CallD.e (hA) ?_ | refine CallQ.e (hA) ?_ | refine CallP.e (hA) ?_); conv => whnf))
  · have hset := fun i (hi : i < 33) => set hE (.mk 8 0 0 [] [] (dicN i)) (keyN i) (.mk 2 1 (1000 * i) [] [] []) (fun k n f s l d h => by cases h; rw [dicN_len]; unfold big; omega)
    have hint := fun i (hi : i < 33) => int34 hE (i : Int)
    refine LoopG.w (fun x : Nat => x ≤ kk) 96 (fun x => [(4, .bool false), (5, .bool true), (6, .int .i64 kk), (7, .ptr 1 0 0), (8, .str kbT), (9, .int .i64 x)]) (fun x => [⟨0, true, .frame l⟩, ⟨0, true, .cells 47 [.int .i64 8, .int .i64 0, .int .i64 0, .str [], .imm 6 (obL []), .imm 7 (obD (dicN x))]⟩]) (fun x => kk - x) 0 (by omega)
      (Wk.gc [some 0, some 1] rfl rfl rfl ⟨⟨_, _, rfl, rfl, .same _ rfl⟩, ⟨_, _, rfl, rfl, .l (by simp [sc]) ⟨.same _ rfl, .same _ rfl, .same _ rfl, .same _ rfl, .nil _ _, .nil _ _, trivial⟩⟩, trivial⟩
        ⟨⟨_, rfl, .same _ rfl⟩, ⟨_, rfl, .same _ rfl⟩, ⟨_, rfl, .same _ rfl⟩, ⟨_, rfl, .ptr 1 1 0 0 0 _ _ rfl rfl rfl⟩, ⟨_, rfl, .same _ rfl⟩, ⟨_, rfl, .same _ rfl⟩, trivial⟩) ?_
    intro x h1
    by_cases hx : x < kk
    · have hset := hset x (by omega)
      have hint := hint x (by omega)
      rw [intO_n x (by omega)] at hint
      have e : setL (.mk 8 0 0 [] [] (dicN x)) (keyN x) (.mk 2 1 (1000 * x) [] [] []) = .mk 8 0 0 [] [] (dicN (x + 1)) := by
        rw [← dicN_set x (by omega)]; rfl
      rw [e] at hset
      unfold obC at hset hint
      have hD : ∀ n0, hbLL n0 (obD (dicN (x + 1))) = true := fun n0 => obD_hb _
      conv => whnf
      repeat' (first
        | (rw [keyN_eq x]; conv => whnf)
        | (refine And.intro ?_ ?_; (focus (first | omega | decide | (unfold inI64; omega) | (simp only [List.length_append, List.length_cons, List.length_nil] <;> omega) | (refine ⟨?_, ?_⟩ <;> omega) | (refine ⟨?_, ?_, ?_, ?_, ?_, ?_⟩ <;> first | rfl | trivial | decide | omega | (simp [bytesAV_length] <;> omega)) | (simp <;> omega) | (unfold inI64; simp only [List.length_append, List.length_cons, List.length_nil] <;> omega))); conv => whnf)
        | (refine brD (fun _ => ?_) (fun _ => ?_) <;> first | (exfalso; omega) | (conv => whnf))
        | (refine brB (fun _ => ?_) (fun _ => ?_) <;> conv => whnf)
        | ((first | refine CallG.e (hset) ?_ | refine CallD.e (hset) ?_ | refine CallQ.e (hset) ?_ | refine CallP.e (hset) ?_); conv => whnf)
        | ((first | refine CallG.e (hint) ?_ | refine CallD.e (hint) ?_ | refine CallQ.e (hint) ?_ | refine CallP.e (hint) ?_); conv => whnf))
      exact ⟨x + 1, ⟨by omega, by omega⟩, Wk.gc [some 0, some 1] rfl rfl rfl ⟨⟨_, _, rfl, rfl, .same _ rfl⟩, ⟨_, _, rfl, rfl, .eq rfl (by simp [bkFree, hbB, hbL, hb, obL_hb, obD_hb])⟩, trivial⟩
        ⟨⟨_, rfl, .same _ rfl⟩, ⟨_, rfl, .same _ rfl⟩, ⟨_, rfl, .same _ rfl⟩, ⟨_, rfl, .ptr 1 1 0 0 0 _ _ rfl rfl rfl⟩, ⟨_, rfl, .same _ rfl⟩, ⟨_, rfl, .same _ rfl⟩, trivial⟩⟩
    · obtain rfl : x = kk := by omega
      have hlx : (obD (dicN x)).length = x := by rw [obD_length, dicN_len]
      have hcn := count32 hE _ (.mk 8 0 0 [] [] (dicN x)) (Nat.lt_succ_self _) (by rw [dicN_count]; unfold big; omega)
      rw [dicN_count] at hcn
      unfold obC at hcn
      have hget := fun j (hj : j < x) => get35 hE 8 0 0 [] [] (dicN x) (keyN j) (by rw [dicN_len]; unfold big; omega)
      have hdel := fun j (hj : j < x) => set hE (.mk 8 0 0 [] [] ((dicN x).drop j)) (keyN j) ob00 (fun k n f s l d h => by cases h; rw [List.length_drop, dicN_len]; unfold big; omega)
      have hD : ∀ n0, hbLL n0 (obD (dicN x)) = true := fun n0 => obD_hb _
      conv => whnf
      repeat' (first
        | (refine And.intro ?_ ?_; (focus (first | omega | decide | (unfold inI64; omega) | (simp only [List.length_append, List.length_cons, List.length_nil] <;> omega) | (refine ⟨?_, ?_⟩ <;> omega) | (refine ⟨?_, ?_, ?_, ?_, ?_, ?_⟩ <;> first | rfl | trivial | decide | omega | (simp [bytesAV_length] <;> omega)) | (simp <;> omega) | (unfold inI64; simp only [List.length_append, List.length_cons, List.length_nil] <;> omega))); conv => whnf)
        | (refine brD (fun _ => ?_) (fun _ => ?_) <;> first | (exfalso; omega) | (conv => whnf))
        | (refine brB (fun _ => ?_) (fun _ => ?_) <;> conv => whnf)
        | ((first | refine CallG.e (hcn) ?_ | refine CallD.e (hcn) ?_ | refine CallQ.e (hcn) ?_ | refine CallP.e (hcn) ?_); conv => whnf))
      refine LoopG.s (fun y : Nat => y ≤ x) 96 (fun y => [(4, .bool false), (5, .bool true), (6, .int .i64 x), (7, .ptr 1 0 0), (8, .str kbT), (10, .int .i64 y)]) (fun y => [⟨0, true, .frame l⟩, ⟨0, true, .cells 47 [.int .i64 8, .int .i64 0, .int .i64 0, .str [], .imm 6 (obL []), .imm 7 (obD (dicN x))]⟩]) (fun y => x - y) 0 (by omega) rfl ⟨rfl, rfl, rfl, rfl, rfl, rfl⟩ rfl ?_
      intro y hy1
      by_cases hy : y < x
      · have hget := hget y hy
        rw [dicN_get x y (by omega) hy 8 (by decide)] at hget
        have hg := obD_get (d := dicN x) (k := y) (by rw [dicN_len]; omega)
        rw [dicN_at] at hg
        unfold entN obE at hg
        unfold obC at hg hget
        conv => whnf
        repeat' (first
          | (rw [hg]; conv => whnf)
          | (rw [keyN_eq y]; conv => whnf)
          | (refine And.intro ?_ ?_; (focus (first | omega | decide | (unfold inI64; omega) | (simp only [List.length_append, List.length_cons, List.length_nil] <;> omega) | (refine ⟨?_, ?_⟩ <;> omega) | (refine ⟨?_, ?_, ?_, ?_, ?_, ?_⟩ <;> first | rfl | trivial | decide | omega | (simp [bytesAV_length] <;> omega)) | (simp <;> omega) | (unfold inI64; simp only [List.length_append, List.length_cons, List.length_nil] <;> omega))); conv => whnf)
          | (refine brD (fun _ => ?_) (fun _ => ?_) <;> first | (exfalso; omega) | (conv => whnf))
          | (refine brB (fun _ => ?_) (fun _ => ?_) <;> conv => whnf)
          | ((first | refine CallG.e (hget) ?_ | refine CallD.e (hget) ?_ | refine CallQ.e (hget) ?_ | refine CallP.e (hget) ?_); conv => whnf)
          | (refine And.intro ⟨by omega, by omega, rfl⟩ ?_; conv => whnf))
        · rename_i hne
          exact absurd rfl hne
        · exact ⟨y + 1, ⟨by omega, by omega⟩, Wk.slots rfl ⟨rfl, rfl, rfl, rfl, rfl, rfl⟩⟩
      · obtain rfl : y = x := by omega
        conv => whnf
        repeat' (first
          | (refine And.intro ?_ ?_; (focus (first | omega | decide | (unfold inI64; omega) | (simp only [List.length_append, List.length_cons, List.length_nil] <;> omega) | (refine ⟨?_, ?_⟩ <;> omega) | (refine ⟨?_, ?_, ?_, ?_, ?_, ?_⟩ <;> first | rfl | trivial | decide | omega | (simp [bytesAV_length] <;> omega)) | (simp <;> omega) | (unfold inI64; simp only [List.length_append, List.length_cons, List.length_nil] <;> omega))); conv => whnf)
          | (refine brD (fun _ => ?_) (fun _ => ?_) <;> first | (exfalso; omega) | (conv => whnf))
          | (refine brB (fun _ => ?_) (fun _ => ?_) <;> conv => whnf))
        refine LoopG.s (fun z : Nat => z ≤ y) 96 (fun z => [(5, .bool true), (6, .int .i64 y), (7, .ptr 1 0 0), (8, .str kbT), (11, .int .i64 z)]) (fun z => [⟨0, true, .frame l⟩, ⟨0, true, .cells 47 [.int .i64 8, .int .i64 0, .int .i64 0, .str [], .imm 6 (obL []), .imm 7 (obD ((dicN y).drop z))]⟩]) (fun z => y - z) 0 (by omega) rfl ⟨rfl, rfl, rfl, rfl, rfl⟩ rfl ?_
        intro z hz1
        by_cases hz : z < y
        · have hdel := hdel z hz
          have e : setL (.mk 8 0 0 [] [] ((dicN y).drop z)) (keyN z) ob00 = .mk 8 0 0 [] [] ((dicN y).drop (z + 1)) := by
            rw [← dicN_drop y z (by omega) hz]; rfl
          rw [e] at hdel
          have hdel2 := hdel.pub (args' := [.agg (obC (.mk 8 0 0 [] [] ((dicN y).drop z))), .str (keyN z), .agg [.int .i64 0, .int .i64 0, .int .i64 0, .str [], nilA, nilA]]) (fun n => ⟨.same _ (by simp [hb, obC_hb]), .same _ rfl, pubOb 0 0 0 [], trivial⟩)
          unfold obC at hdel2
          conv => whnf
          repeat' (first
            | (rw [keyN_eq z]; conv => whnf)
            | (refine And.intro ?_ ?_; (focus (first | omega | decide | (unfold inI64; omega) | (simp only [List.length_append, List.length_cons, List.length_nil] <;> omega) | (refine ⟨?_, ?_⟩ <;> omega) | (refine ⟨?_, ?_, ?_, ?_, ?_, ?_⟩ <;> first | rfl | trivial | decide | omega | (simp [bytesAV_length] <;> omega)) | (simp <;> omega) | (unfold inI64; simp only [List.length_append, List.length_cons, List.length_nil] <;> omega))); conv => whnf)
            | (refine brD (fun _ => ?_) (fun _ => ?_) <;> first | (exfalso; omega) | (conv => whnf))
            | (refine brB (fun _ => ?_) (fun _ => ?_) <;> conv => whnf)
            | ((first | refine CallG.e (hdel2) ?_ | refine CallD.e (hdel2) ?_ | refine CallQ.e (hdel2) ?_ | refine CallP.e (hdel2) ?_); conv => whnf))
          exact ⟨z + 1, ⟨by omega, by omega⟩, Wk.slots rfl ⟨rfl, rfl, rfl, rfl, rfl⟩⟩
        · obtain rfl : z = y := by omega
          have hnil : (dicN z).drop z = [] := List.drop_eq_nil_of_le (by rw [dicN_len]; omega)
          rw [hnil]
          conv => whnf
          repeat' (first
            | (refine And.intro ?_ ?_; (focus (first | omega | decide | (unfold inI64; omega) | (simp only [List.length_append, List.length_cons, List.length_nil] <;> omega) | (refine ⟨?_, ?_⟩ <;> omega) | (refine ⟨?_, ?_, ?_, ?_, ?_, ?_⟩ <;> first | rfl | trivial | decide | omega | (simp [bytesAV_length] <;> omega)) | (simp <;> omega) | (unfold inI64; simp only [List.length_append, List.length_cons, List.length_nil] <;> omega))); conv => whnf)
            | (refine brD (fun _ => ?_) (fun _ => ?_) <;> first | (exfalso; omega) | (conv => whnf))
            | (refine brB (fun _ => ?_) (fun _ => ?_) <;> conv => whnf))
          exact RetG.drop rfl rfl rfl ⟨rfl, rfl, rfl⟩
  · have hset := fun i (hi : i < 33) => set hE (.mk 6 0 0 [] [] (dicN i)) (keyN i) (.mk 2 1 (1000 * i) [] [] []) (fun k n f s l d h => by cases h; rw [dicN_len]; unfold big; omega)
    have hint := fun i (hi : i < 33) => int34 hE (i : Int)
    refine LoopG.w (fun x : Nat => x ≤ kk) 96 (fun x => [(4, .bool false), (5, .bool true), (6, .int .i64 kk), (7, .ptr 1 0 0), (8, .str kbT), (9, .int .i64 x)]) (fun x => [⟨0, true, .frame l⟩, ⟨0, true, .cells 47 [.int .i64 6, .int .i64 0, .int .i64 0, .str [], .imm 6 (obL []), .imm 7 (obD (dicN x))]⟩]) (fun x => kk - x) 0 (by omega)
      (Wk.gc [some 0, some 1] rfl rfl rfl ⟨⟨_, _, rfl, rfl, .same _ rfl⟩, ⟨_, _, rfl, rfl, .l (by simp [sc]) ⟨.same _ rfl, .same _ rfl, .same _ rfl, .same _ rfl, .nil _ _, .nil _ _, trivial⟩⟩, trivial⟩
        ⟨⟨_, rfl, .same _ rfl⟩, ⟨_, rfl, .same _ rfl⟩, ⟨_, rfl, .same _ rfl⟩, ⟨_, rfl, .ptr 1 1 0 0 0 _ _ rfl rfl rfl⟩, ⟨_, rfl, .same _ rfl⟩, ⟨_, rfl, .same _ rfl⟩, trivial⟩) ?_
    intro x h1
    by_cases hx : x < kk
    · have hset := hset x (by omega)
      have hint := hint x (by omega)
      rw [intO_n x (by omega)] at hint
      have e : setL (.mk 6 0 0 [] [] (dicN x)) (keyN x) (.mk 2 1 (1000 * x) [] [] []) = .mk 6 0 0 [] [] (dicN (x + 1)) := by
        rw [← dicN_set x (by omega)]; rfl
      rw [e] at hset
      unfold obC at hset hint
      have hD : ∀ n0, hbLL n0 (obD (dicN (x + 1))) = true := fun n0 => obD_hb _
      conv => whnf
      repeat' (first
        | (rw [keyN_eq x]; conv => whnf)
        | (refine And.intro ?_ ?_; (focus (first | omega | decide | (unfold inI64; omega) | (simp only [List.length_append, List.length_cons, List.length_nil] <;> omega) | (refine ⟨?_, ?_⟩ <;> omega) | (refine ⟨?_, ?_, ?_, ?_, ?_, ?_⟩ <;> first | rfl | trivial | decide | omega | (simp [bytesAV_length] <;> omega)) | (simp <;> omega) | (unfold inI64; simp only [List.length_append, List.length_cons, List.length_nil] <;> omega))); conv => whnf)
        | (refine brD (fun _ => ?_) (fun _ => ?_) <;> first | (exfalso; omega) | (conv => whnf))
        | (refine brB (fun _ => ?_) (fun _ => ?_) <;> conv => whnf)
        | ((first | refine CallG.e (hset) ?_ | refine CallD.e (hset) ?_ | refine CallQ.e (hset) ?_ | refine CallP.e (hset) ?_); conv => whnf)
        | ((first | refine CallG.e (hint) ?_ | refine CallD.e (hint) ?_ | refine CallQ.e (hint) ?_ | refine CallP.e (hint) ?_); conv => whnf))
      exact ⟨x + 1, ⟨by omega, by omega⟩, Wk.gc [some 0, some 1] rfl rfl rfl ⟨⟨_, _, rfl, rfl, .same _ rfl⟩, ⟨_, _, rfl, rfl, .eq rfl (by simp [bkFree, hbB, hbL, hb, obL_hb, obD_hb])⟩, trivial⟩
        ⟨⟨_, rfl, .same _ rfl⟩, ⟨_, rfl, .same _ rfl⟩, ⟨_, rfl, .same _ rfl⟩, ⟨_, rfl, .ptr 1 1 0 0 0 _ _ rfl rfl rfl⟩, ⟨_, rfl, .same _ rfl⟩, ⟨_, rfl, .same _ rfl⟩, trivial⟩⟩
    · obtain rfl : x = kk := by omega
      have hlx : (obD (dicN x)).length = x := by rw [obD_length, dicN_len]
      have hcn := count32 hE _ (.mk 6 0 0 [] [] (dicN x)) (Nat.lt_succ_self _) (by rw [dicN_count]; unfold big; omega)
      rw [dicN_count] at hcn
      unfold obC at hcn
      have hget := fun j (hj : j < x) => get35 hE 6 0 0 [] [] (dicN x) (keyN j) (by rw [dicN_len]; unfold big; omega)
      have hdel := fun j (hj : j < x) => set hE (.mk 6 0 0 [] [] ((dicN x).drop j)) (keyN j) ob00 (fun k n f s l d h => by cases h; rw [List.length_drop, dicN_len]; unfold big; omega)
      have hD : ∀ n0, hbLL n0 (obD (dicN x)) = true := fun n0 => obD_hb _
      conv => whnf
      repeat' (first
        | (refine And.intro ?_ ?_; (focus (first | omega | decide | (unfold inI64; omega) | (simp only [List.length_append, List.length_cons, List.length_nil] <;> omega) | (refine ⟨?_, ?_⟩ <;> omega) | (refine ⟨?_, ?_, ?_, ?_, ?_, ?_⟩ <;> first | rfl | trivial | decide | omega | (simp [bytesAV_length] <;> omega)) | (simp <;> omega) | (unfold inI64; simp only [List.length_append, List.length_cons, List.length_nil] <;> omega))); conv => whnf)
        | (refine brD (fun _ => ?_) (fun _ => ?_) <;> first | (exfalso; omega) | (conv => whnf))
        | (refine brB (fun _ => ?_) (fun _ => ?_) <;> conv => whnf)
        | ((first | refine CallG.e (hcn) ?_ | refine CallD.e (hcn) ?_ | refine CallQ.e (hcn) ?_ | refine CallP.e (hcn) ?_); conv => whnf))
      refine LoopG.s (fun y : Nat => y ≤ x) 96 (fun y => [(4, .bool false), (5, .bool true), (6, .int .i64 x), (7, .ptr 1 0 0), (8, .str kbT), (10, .int .i64 y)]) (fun y => [⟨0, true, .frame l⟩, ⟨0, true, .cells 47 [.int .i64 6, .int .i64 0, .int .i64 0, .str [], .imm 6 (obL []), .imm 7 (obD (dicN x))]⟩]) (fun y => x - y) 0 (by omega) rfl ⟨rfl, rfl, rfl, rfl, rfl, rfl⟩ rfl ?_
      intro y hy1
      by_cases hy : y < x
      · have hget := hget y hy
        rw [dicN_get x y (by omega) hy 6 (by decide)] at hget
        have hg := obD_get (d := dicN x) (k := y) (by rw [dicN_len]; omega)
        rw [dicN_at] at hg
        unfold entN obE at hg
        unfold obC at hg hget
        conv => whnf
        repeat' (first
          | (rw [hg]; conv => whnf)
          | (rw [keyN_eq y]; conv => whnf)
          | (refine And.intro ?_ ?_; (focus (first | omega | decide | (unfold inI64; omega) | (simp only [List.length_append, List.length_cons, List.length_nil] <;> omega) | (refine ⟨?_, ?_⟩ <;> omega) | (refine ⟨?_, ?_, ?_, ?_, ?_, ?_⟩ <;> first | rfl | trivial | decide | omega | (simp [bytesAV_length] <;> omega)) | (simp <;> omega) | (unfold inI64; simp only [List.length_append, List.length_cons, List.length_nil] <;> omega))); conv => whnf)
          | (refine brD (fun _ => ?_) (fun _ => ?_) <;> first | (exfalso; omega) | (conv => whnf))
          | (refine brB (fun _ => ?_) (fun _ => ?_) <;> conv => whnf)
          | ((first | refine CallG.e (hget) ?_ | refine CallD.e (hget) ?_ | refine CallQ.e (hget) ?_ | refine CallP.e (hget) ?_); conv => whnf)
          | (refine And.intro ⟨by omega, by omega, rfl⟩ ?_; conv => whnf))
        · rename_i hne
          exact absurd rfl hne
        · exact ⟨y + 1, ⟨by omega, by omega⟩, Wk.slots rfl ⟨rfl, rfl, rfl, rfl, rfl, rfl⟩⟩
      · obtain rfl : y = x := by omega
        conv => whnf
        repeat' (first
          | (refine And.intro ?_ ?_; (focus (first | omega | decide | (unfold inI64; omega) | (simp only [List.length_append, List.length_cons, List.length_nil] <;> omega) | (refine ⟨?_, ?_⟩ <;> omega) | (refine ⟨?_, ?_, ?_, ?_, ?_, ?_⟩ <;> first | rfl | trivial | decide | omega | (simp [bytesAV_length] <;> omega)) | (simp <;> omega) | (unfold inI64; simp only [List.length_append, List.length_cons, List.length_nil] <;> omega))); conv => whnf)
          | (refine brD (fun _ => ?_) (fun _ => ?_) <;> first | (exfalso; omega) | (conv => whnf))
          | (refine brB (fun _ => ?_) (fun _ => ?_) <;> conv => whnf))
        refine LoopG.s (fun z : Nat => z ≤ y) 96 (fun z => [(5, .bool true), (6, .int .i64 y), (7, .ptr 1 0 0), (8, .str kbT), (11, .int .i64 z)]) (fun z => [⟨0, true, .frame l⟩, ⟨0, true, .cells 47 [.int .i64 6, .int .i64 0, .int .i64 0, .str [], .imm 6 (obL []), .imm 7 (obD ((dicN y).drop z))]⟩]) (fun z => y - z) 0 (by omega) rfl ⟨rfl, rfl, rfl, rfl, rfl⟩ rfl ?_
        intro z hz1
        by_cases hz : z < y
        · have hdel := hdel z hz
          have e : setL (.mk 6 0 0 [] [] ((dicN y).drop z)) (keyN z) ob00 = .mk 6 0 0 [] [] ((dicN y).drop (z + 1)) := by
            rw [← dicN_drop y z (by omega) hz]; rfl
          rw [e] at hdel
          have hdel2 := hdel.pub (args' := [.agg (obC (.mk 6 0 0 [] [] ((dicN y).drop z))), .str (keyN z), .agg [.int .i64 0, .int .i64 0, .int .i64 0, .str [], nilA, nilA]]) (fun n => ⟨.same _ (by simp [hb, obC_hb]), .same _ rfl, pubOb 0 0 0 [], trivial⟩)
          unfold obC at hdel2
          conv => whnf
          repeat' (first
            | (rw [keyN_eq z]; conv => whnf)
            | (refine And.intro ?_ ?_; (focus (first | omega | decide | (unfold inI64; omega) | (simp only [List.length_append, List.length_cons, List.length_nil] <;> omega) | (refine ⟨?_, ?_⟩ <;> omega) | (refine ⟨?_, ?_, ?_, ?_, ?_, ?_⟩ <;> first | rfl | trivial | decide | omega | (simp [bytesAV_length] <;> omega)) | (simp <;> omega) | (unfold inI64; simp only [List.length_append, List.length_cons, List.length_nil] <;> omega))); conv => whnf)
            | (refine brD (fun _ => ?_) (fun _ => ?_) <;> first | (exfalso; omega) | (conv => whnf))
            | (refine brB (fun _ => ?_) (fun _ => ?_) <;> conv => whnf)
            | ((first | refine CallG.e (hdel2) ?_ | refine CallD.e (hdel2) ?_ | refine CallQ.e (hdel2) ?_ | refine CallP.e (hdel2) ?_); conv => whnf))
          exact ⟨z + 1, ⟨by omega, by omega⟩, Wk.slots rfl ⟨rfl, rfl, rfl, rfl, rfl⟩⟩
        · obtain rfl : z = y := by omega
          have hnil : (dicN z).drop z = [] := List.drop_eq_nil_of_le (by rw [dicN_len]; omega)
          rw [hnil]
          conv => whnf
          repeat' (first
            | (refine And.intro ?_ ?_; (focus (first | omega | decide | (unfold inI64; omega) | (simp only [List.length_append, List.length_cons, List.length_nil] <;> omega) | (refine ⟨?_, ?_⟩ <;> omega) | (refine ⟨?_, ?_, ?_, ?_, ?_, ?_⟩ <;> first | rfl | trivial | decide | omega | (simp [bytesAV_length] <;> omega)) | (simp <;> omega) | (unfold inI64; simp only [List.length_append, List.length_cons, List.length_nil] <;> omega))); conv => whnf)
            | (refine brD (fun _ => ?_) (fun _ => ?_) <;> first | (exfalso; omega) | (conv => whnf))
            | (refine brB (fun _ => ?_) (fun _ => ?_) <;> conv => whnf))
          exact RetG.drop rfl rfl rfl ⟨rfl, rfl, rfl⟩
end Ink.D
