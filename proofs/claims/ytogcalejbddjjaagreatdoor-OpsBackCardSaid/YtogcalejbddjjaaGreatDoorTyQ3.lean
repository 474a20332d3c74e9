import Derived.Test.YtogcalejbddjjaaGreatDoorTyQ1
import Derived.Test.YtogcalejbddjjaaGreatDoorTyB2
import Derived.Test.YtogcalejbddjjaaGreatDoorPCosI
set_option linter.all false
namespace Ink.D
open Go Go.Proofs
set_option maxRecDepth 100000

/-! operators that are written are read -/
section
variable {s R : List UInt8} {p : Nat}

theorem nx_reg {c : UInt8} {w : List UInt8} (hw : (c :: w).all isReg = true) (hc : c ∉ numStart) (hR : tailN R) (h : s.drop p = (c :: w) ++ R) :
    nextL s p = (⟨8, 0, c :: w, false, p, p + (c :: w).length⟩, 0) := by
  have key : ∀ c : UInt8, (!isReg c || decide (isWhite c = false ∧ c ≠ 37 ∧ c ≠ 91 ∧ c ≠ 93 ∧ c ≠ 60 ∧ c ≠ 62 ∧ c ≠ 47 ∧ c ≠ 40 ∧ isDelim c = false)) = true := by
    intro c
    revert c
    refine u8all ?_
    decide +kernel
  have kk := key c
  have h0 : isReg c = true := by simp only [List.all_cons, Bool.and_eq_true] at hw; exact hw.1
  rw [h0] at kk
  simp only [Bool.not_true, Bool.false_or, decide_eq_true_eq] at kk
  obtain ⟨k1, k2, k3, k4, k5, k6, k7, k8, k9⟩ := kk
  have htw := tw_all isReg _ R hw hR
  have pf : ∀ (a : UInt8) (l m : List UInt8), c ≠ a → List.isPrefixOf (a :: l) (c :: m) = false := fun a l m h => by
    have : (a == c) = false := by simpa using h.symm
    simp [List.isPrefixOf, this]
  rw [List.cons_append] at h htw
  have htok : tokL (c :: (w ++ R)) p = (⟨8, 0, c :: w, false, p, p + (c :: w).length⟩, 0) := by
    rw [tokL_cons _ _ _ (pf _ _ _ k3) (pf _ _ _ k4) (pf _ _ _ k5) (pf _ _ _ k6)]
    unfold tokR
    rw [if_neg k7, if_neg k8, if_neg k5, k9]
    simp only [Bool.false_eq_true, if_false]
    unfold wordL
    rw [htw]
    simp only [List.getD_cons_zero]
    rw [if_neg hc]
  rw [nextL_at h (drop_le h (by simp))]
  have hsk : skip (c :: (w ++ R)) false = 0 := by simp [skip, k1, k2]
  rw [hsk, if_neg (by simp)]
  simp only [List.drop_zero, Nat.add_zero]
  rw [htok]
  rfl

theorem nx_nl (h : s.drop p = 10 :: R) : nextL s p = nextL s ((p + 1 : Nat) : Int) := by
  have h2 : s.drop (p + 1) = R := drop_more (A := [10]) h
  have hp := drop_le h (by simp)
  have hl : s.length = p + (R.length + 1) := by
    have := congrArg List.length h
    simp at this; omega
  rw [nextL_at h hp, nextL_at h2 (by omega)]
  have e : skip (10 :: R) false = 1 + skip R false := rfl
  rw [e]
  have e2 : (10 :: R).drop (1 + skip R false) = R.drop (skip R false) := by rw [Nat.add_comm, List.drop_succ_cons]
  rw [e2]
  have e3 : (10 :: R).length = 1 + R.length := by simp; omega
  rw [e3]
  by_cases hk : skip R false = R.length
  · rw [if_pos (by omega), if_pos hk]
    simp
    omega
  · rw [if_neg (by omega), if_neg hk]
    have e4 : p + (1 + skip R false) = p + 1 + skip R false := by omega
    rw [e4]
end

theorem parO_next {s : List UInt8} {q q' : Int} (h : nextL s q = nextL s q') (n : Nat) (out : List OpL) (args : List Ob) : parO s n q out args = parO s n q' out args := by
  cases n with
  | zero => rfl
  | succ n => rw [parO, parO, h]

theorem reg10 : isReg 10 = false := by decide

theorem arg_step {s R : List UInt8} {p : Nat} {o : Ob} (hg : Good o 0) (h7 : o.kind ≠ 7) (hR : tailN R) (h : s.drop p = txt o ++ R) :
    ∃ t, nextL s p = (t, 0) ∧ t.kind ≠ 0 ∧ operT t = false ∧ opObj s t = (o, ((p + (txt o).length : Nat) : Int), 0) := by
  have other : ∀ (t : Tok), t.from_ = p → t.kind ≠ 1 → o.kind ≠ 2 → opObj s t = (o, ((p + (txt o).length : Nat) : Int), 0) := by
    intro t hf hk h2
    have hb := back _ o 64 0 s R p (Nat.lt_succ_self _) (by omega) (by omega) hg hR h (fun h => absurd h h2)
    unfold opObj parseR
    rw [if_pos hk, hf, hb]
    simp
  obtain ⟨k, n, f, t, l, d⟩ := o
  unfold Ob.kind at h7 other
  simp only at h7 other
  rcases good_parts hg with ⟨rfl, _⟩ | ⟨rfl, hn, _⟩ | ⟨rfl, hf, hn, rfl, rfl, rfl⟩ | ⟨rfl, _⟩ | ⟨rfl, _⟩ | ⟨rfl, _⟩ | ⟨rfl, _⟩ | ⟨rfl, _⟩
  · have e : txt (.mk 0 n f t l d) = [110, 117, 108, 108] := by simp [txt]
    have h2 := h
    rw [e] at h2
    exact ⟨_, nx_word (c := 110) (w := [117, 108, 108]) (by decide) hR h2, by simp, by simp [operT, constS], other _ rfl (by simp) (by decide)⟩
  · rcases hn with rfl | rfl
    · have e : txt (.mk 1 0 f t l d) = [102, 97, 108, 115, 101] := by simp [txt]
      have h2 := h
      rw [e] at h2
      exact ⟨_, nx_word (c := 102) (w := [97, 108, 115, 101]) (by decide) hR h2, by simp, by simp [operT, constS], other _ rfl (by simp) (by decide)⟩
    · have e : txt (.mk 1 1 f t l d) = [116, 114, 117, 101] := by simp [txt]
      have h2 := h
      rw [e] at h2
      exact ⟨_, nx_word (c := 116) (w := [114, 117, 101]) (by decide) hR h2, by simp, by simp [operT, constS], other _ rfl (by simp) (by decide)⟩
  · have e : txt (.mk 2 n f [] [] []) = numT n f := by simp [txt]
    have h2 := h
    rw [e] at h2 ⊢
    refine ⟨_, nx_num hf hn hR h2, by simp, by simp [operT], ?_⟩
    unfold opObj
    rw [if_neg (by simp)]
    rcases hn with rfl | ⟨rfl, _⟩ <;> simp
  · have e : txt (.mk 3 n f t l d) = 47 :: (t.map nameC).flatten := by simp [txt]
    have h2 := h
    rw [e] at h2
    exact ⟨_, nx_nameA hR h2, by simp, by simp [operT], other _ rfl (by simp) (by decide)⟩
  · have e : txt (.mk 4 n f t l d) = 40 :: (t.map quoteC).flatten ++ [41] := by simp [txt]
    have h2 := h
    rw [e] at h2
    exact ⟨_, nx_quoteA h2, by simp, by simp [operT], other _ rfl (by simp) (by decide)⟩
  · have e : txt (.mk 5 n f t l d) = [91] ++ joinT (txtL l) ++ [93] := by simp [txt]
    have h2 := h
    rw [e, List.append_assoc, List.append_assoc] at h2
    exact ⟨_, nx_open h2, by simp, by simp [operT], other _ rfl (by simp) (by decide)⟩
  · have e : txt (.mk 6 n f t l d) = [60, 60] ++ joinT (txtD d) ++ [62, 62] := by simp [txt]
    have h2 := h
    rw [e, List.append_assoc, List.append_assoc] at h2
    exact ⟨_, nx_dopen h2, by simp, by simp [operT], other _ rfl (by simp) (by decide)⟩
  · exact absurd rfl h7

theorem args_back {s R : List UInt8} {out : List OpL} : ∀ (xs done : List Ob) (p n : Nat), (∀ o ∈ xs, Good o 0 ∧ o.kind ≠ 7 ∧ resT o = txt o) → done.length + xs.length ≤ 64 → xs.length ≤ n → s.drop p = argsT xs ++ R →
    parO s n p out done = parO s (n - xs.length) ((p + (argsT xs).length : Nat) : Int) out (done ++ xs)
  | [], done, p, n, _, _, _, h => by simp [argsT]
  | o :: xs, done, p, n, hg, hl, hn, h => by
    obtain ⟨n, rfl⟩ : ∃ m, n = m + 1 := ⟨n - 1, by simp at hn; omega⟩
    obtain ⟨hg1, h7, hr⟩ := hg o (List.mem_cons_self ..)
    have e : argsT (o :: xs) = txt o ++ (32 :: argsT xs) := by simp [argsT, hr]
    rw [e, List.append_assoc] at h
    obtain ⟨t, ht, k0, ko, kb⟩ := arg_step hg1 h7 (tailN_cons space32) h
    have h2 := drop_more h
    have h3 : s.drop (p + (txt o).length + 1) = argsT xs ++ R := drop_more (A := [32]) h2
    simp only [List.length_cons] at hl hn
    rw [parO, ht]
    simp only [ko, kb]
    rw [if_neg (by simp), if_neg (by simp [k0]), if_neg (by simp [k0]), if_neg (by simp; omega), if_neg (by simp), if_neg (by simp)]
    rw [parO_next (nx_space h2), args_back xs (done ++ [o]) _ n (fun o ho => hg o (List.mem_cons_of_mem _ ho)) (by simp; omega) (by omega) h3]
    rw [e]
    simp only [List.length_append, List.length_cons, List.append_assoc, List.singleton_append]
    congr 1
    · omega
    · omega

theorem named_nx {s R nm : List UInt8} {p : Nat} (hn : namedB nm = true) (hR : tailN R) (h : s.drop p = nm ++ R) : nextL s p = (⟨8, 0, nm, false, p, p + nm.length⟩, 0) ∧ operT ⟨8, 0, nm, false, p, p + nm.length⟩ = true ∧ nm ≠ [66, 73] := by
  unfold namedB at hn
  simp only [Bool.and_eq_true, Bool.not_eq_true', Bool.or_eq_false_iff, decide_eq_false_iff_not] at hn
  obtain ⟨⟨⟨⟨h0, h1⟩, h2⟩, h3⟩, h4⟩ := hn
  match nm, h0 with
  | c :: w, _ =>
    exact ⟨nx_reg h4 (by simpa using h3) hR h, by simp [operT, h2], h1⟩

def opsN : List OpL → Nat
  | [] => 1
  | p :: r => p.2.length + 1 + opsN r

structure GoodP (p : OpL) : Prop where
  nm : namedB p.1 = true
  len : p.2.length ≤ 64
  arg : ∀ o ∈ p.2, Good o 0 ∧ o.kind ≠ 7 ∧ resT o = txt o

theorem ops_back {s : List UInt8} : ∀ (ops out : List OpL) (p n : Nat), (∀ q ∈ ops, GoodP q) → out.length + ops.length ≤ 65536 → opsN ops ≤ n → p ≤ s.length → s.drop p = writeT ops → parO s n p out [] = (out ++ ops, 0)
  | [], out, p, n, _, _, hn, hp, h => by
    obtain ⟨n, rfl⟩ : ∃ m, n = m + 1 := ⟨n - 1, by simp [opsN] at hn; omega⟩
    have h : s.drop p = [] := h
    rw [par_end n out p (nx_end h hp), List.append_nil]
  | q :: ops, out, p, n, hg, hl, hn, hp, h => by
    have hq := hg q (List.mem_cons_self ..)
    have e : writeT (q :: ops) = argsT q.2 ++ (q.1 ++ (10 :: writeT ops)) := by simp [writeT, opT]
    rw [e] at h
    unfold opsN at hn
    rw [args_back q.2 [] p n hq.arg (by simpa using hq.len) (by omega) h, List.nil_append]
    have h2 := drop_more h
    obtain ⟨n1, hn1⟩ : ∃ m, n - q.2.length = m + 1 := ⟨n - q.2.length - 1, by omega⟩
    obtain ⟨t1, t2, t3⟩ := named_nx hq.nm (tailN_cons reg10) h2
    rw [hn1, parO, t1]
    simp only [t2]
    simp only [List.length_cons] at hl
    rw [if_neg (by simp), if_neg (by simp), if_neg (by simp [t3]), if_neg (by simp; omega), if_pos trivial]
    have h3 := drop_more h2
    have h4 : s.drop (p + (argsT q.2).length + q.1.length + 1) = writeT ops := drop_more (A := [10]) h3
    have hlen : p + (argsT q.2).length + q.1.length + 1 ≤ s.length := by
      have := congrArg List.length h
      simp only [List.length_drop, List.length_append, List.length_cons] at this
      omega
    have ih := ops_back ops (out ++ [q]) _ n1 (fun x hx => hg x (List.mem_cons_of_mem _ hx)) (by simp; omega) (by omega) hlen h4
    rw [parO_next (nx_nl h3), ih]
    simp

theorem ops_N {ops : List OpL} (h : ∀ q ∈ ops, q.2.length ≤ 64) : opsN ops ≤ 65 * ops.length + 1 := by
  induction ops with
  | nil => simp [opsN]
  | cons q r ih =>
    have h1 := h q (List.mem_cons_self ..)
    have h2 := ih fun x hx => h x (List.mem_cons_of_mem _ hx)
    simp only [opsN, List.length_cons]
    omega

theorem parse_back {ops : List OpL} (h : ∀ q ∈ ops, GoodP q) (hl : ops.length ≤ 65536) : parseO (writeT ops) = (ops, 0) := by
  unfold parseO
  have := ops_back (s := writeT ops) ops [] 0 (parM [] []) h (by simpa using hl) (by
    have := ops_N fun q hq => (h q hq).len
    unfold parM
    simp
    omega) (by omega) (by simp)
  rw [show (0 : Int) = ((0 : Nat) : Int) from rfl, this]
  rfl

theorem argsE_ok : ∀ {xs : List Ob}, argsE xs = 0 → ∀ o ∈ xs, refsO o = false ∧ errF o = 0
  | [], _, o, ho => by simp at ho
  | a :: xs, h, o, ho => by
    unfold argsE at h
    by_cases h1 : refsO a = true
    · rw [if_pos h1] at h; exact absurd h (by decide)
    · rw [if_neg h1] at h
      by_cases h2 : errF a = 0
      · rw [if_neg (by simp [h2])] at h
        rcases List.mem_cons.mp ho with rfl | ho
        · exact ⟨by simpa using h1, h2⟩
        · exact argsE_ok h o ho
      · rw [if_pos h2] at h; exact absurd h h2
theorem opsE_ok : ∀ {ops : List OpL}, opsE ops = 0 → ∀ p ∈ ops, putE p = 0
  | [], _, o, ho => by simp at ho
  | a :: xs, h, o, ho => by
    unfold opsE at h
    by_cases h2 : putE a = 0
    · rw [if_neg (by simp [h2])] at h
      rcases List.mem_cons.mp ho with rfl | ho
      · exact h2
      · exact opsE_ok h o ho
    · rw [if_pos h2] at h; exact absurd h h2

theorem good_of {o : Ob} (hp : plainO o = true) (hs : errF o = 0) (hw : wfO o) : Good o 0 := by
  have h0 : saneF o 0 = 0 ∧ o.kind ≠ 8 := by
    unfold errF at hs
    by_cases h : saneF o 0 = 0
    · rw [if_neg (by simp [h])] at hs
      exact ⟨h, fun h8 => by rw [if_pos h8] at hs; exact absurd hs (by decide)⟩
    · rw [if_pos h] at hs; exact absurd hs h
  exact ⟨hp, h0.1, hw, h0.2⟩

theorem write_good {ops : List OpL} (h : writeE ops = 0) (hp : ∀ p ∈ ops, ∀ o ∈ p.2, plainO o = true ∧ wfO o) : ops.length ≤ 65536 ∧ ∀ q ∈ ops, GoodP q := by
  unfold writeE at h
  by_cases h6 : 65536 < ops.length
  · rw [if_pos h6] at h; exact absurd h (by decide)
  · rw [if_neg h6] at h
    refine ⟨by omega, fun q hq => ?_⟩
    have h1 := opsE_ok h q hq
    unfold putE at h1
    cases hn : namedB q.1 with
    | false => rw [hn, if_pos rfl] at h1; exact absurd h1 (by decide)
    | true =>
      rw [hn, if_neg (by simp)] at h1
      by_cases h64 : 64 < q.2.length
      · rw [if_pos h64] at h1; exact absurd h1 (by decide)
      · rw [if_neg h64] at h1
        refine ⟨hn, by omega, fun o ho => ?_⟩
        obtain ⟨e1, e2⟩ := argsE_ok h1 o ho
        obtain ⟨p1, p2⟩ := hp q hq o ho
        refine ⟨good_of p1 e2 p2, fun h7 => ?_, by unfold resT; rw [if_pos e2]⟩
        obtain ⟨k, n, f, t, l, d⟩ := o
        unfold Ob.kind at h7
        simp only at h7
        subst h7
        unfold refsO at e1
        simp at e1

mutual
def plainP : Ob → Bool
  | .mk k n f s l d => decide (¬ ((k ≠ 1 ∧ k ≠ 2 ∧ n ≠ 0) ∨ (k ≠ 2 ∧ f ≠ 0) ∨ (k ≠ 3 ∧ k ≠ 4 ∧ s ≠ []) ∨ (k ≠ 5 ∧ 0 < l.length) ∨ (k ≠ 6 ∧ 0 < d.length))) && (plainPL l && plainPD d)
def plainPL : List Ob → Bool
  | [] => true
  | o :: r => plainP o && plainPL r
def plainPD : List (List UInt8 × Ob) → Bool
  | [] => true
  | e :: r => plainPE e && plainPD r
def plainPE : List UInt8 × Ob → Bool
  | (_, o) => plainP o
end
theorem plainP_O : ∀ (N : Nat) (o : Ob), sizeOf o < N → plainP o = true → plainO o = true
  | 0, _, h, _ => by omega
  | N + 1, .mk k n f s l d, h, hp => by
    simp at h
    unfold plainP at hp
    rw [Bool.and_eq_true, Bool.and_eq_true, decide_eq_true_eq] at hp
    obtain ⟨h1, h2, h3⟩ := hp
    have hL : ∀ (m : List Ob), sizeOf m < N + 1 → plainPL m = true → plainL m = true := by
      intro m
      induction m with
      | nil => intro _ _; rfl
      | cons o r ih =>
        intro hz hq
        simp at hz
        simp only [plainPL, plainL, Bool.and_eq_true] at hq ⊢
        exact ⟨plainP_O N o (by omega) hq.1, ih (by omega) hq.2⟩
    have hD : ∀ (m : List (List UInt8 × Ob)), sizeOf m < N + 1 → plainPD m = true → plainD m = true := by
      intro m
      induction m with
      | nil => intro _ _; rfl
      | cons e r ih =>
        intro hz hq
        obtain ⟨a, o⟩ := e
        simp at hz
        simp only [plainPD, plainD, plainPE, plainE, Bool.and_eq_true] at hq ⊢
        exact ⟨plainP_O N o (by omega) hq.1, ih (by omega) hq.2⟩
    unfold plainO
    rw [Bool.and_eq_true, Bool.and_eq_true, decide_eq_true_eq]
    refine ⟨fun hc => h1 ?_, hL l (by omega) h2, hD d (by omega) h3⟩
    rcases hc with h | h | h | h | h
    · exact .inl ⟨h.1, h.2.1, h.2.2.2⟩
    · exact .inr (.inl ⟨h.1, h.2.2⟩)
    · exact .inr (.inr (.inl ⟨h.1, h.2.1, h.2.2.2⟩))
    · exact .inr (.inr (.inr (.inl h)))
    · exact .inr (.inr (.inr (.inr ⟨h.1, h.2.2⟩)))
end Ink.D
