import Derived.Test.YtogcalejbddjjaaGreatDoorTyU6
import Derived.Test.YtogcalejbddjjaaGreatDoorPLexC
set_option linter.all false
namespace Ink.D
open Go Go.Proofs
set_option maxRecDepth 100000

/-! what is parsed is no greater than its text -/
theorem nx_prog {s : List UInt8} {a : Int} (h : (nextL s a).2 = 0) : 0 ≤ a ∧ a ≤ s.length ∧ a ≤ (nextL s a).1.to ∧ ((nextL s a).1.to : Int) ≤ s.length ∧ ((nextL s a).1.kind ≠ 0 → a + 1 ≤ (nextL s a).1.to) := by
  have hin : 0 ≤ a ∧ a ≤ s.length := by
    unfold nextL at h
    by_cases hr : a < 0 ∨ (s.length : Int) < a
    · rw [if_pos hr] at h; exact absurd h (by decide)
    · omega
  have he := nextL_ends s a hin.1 hin.2 (nextL s a).1 (by rw [← h])
  obtain ⟨h1, h2, h3, h4, h5, _⟩ := he
  refine ⟨hin.1, hin.2, by omega, by omega, fun hk => ?_⟩
  have : (nextL s a).1.to ≠ (nextL s a).1.from_ := fun h => hk (h5.2 h)
  omega

theorem countL_snoc (e : Ob) : ∀ l : List Ob, countL (l ++ [e]) = countL l + countO e
  | [] => by simp [countL]
  | o :: l => by rw [List.cons_append, countL, countL, countL_snoc e l]; omega
theorem countD_drop (key : List UInt8) : ∀ d : List (List UInt8 × Ob), countD (dropD key d) ≤ countD d
  | [] => by simp [dropD]
  | e :: d => by
    have := countD_drop key d
    unfold dropD at this ⊢
    rw [List.filter_cons]
    split
    · rw [countD, countD]; omega
    · rw [countD]; omega
theorem countD_set (d : List (List UInt8 × Ob)) (key : List UInt8) (v : Ob) : countD (setD d key v) ≤ countD d + countO v := by
  have h := countD_drop key d
  unfold setD
  split
  · omega
  · split
    · rw [countD_app]; simp [countD, countE]; omega
    · have e : countD (insD (ixK key d 0).toNat (key, v) (dropD key d)) = countD (dropD key d) + countO v := by
        rw [insD, countD_app, countD]
        conv => rhs; rw [← List.take_append_drop (ixK key d 0).toNat (dropD key d), countD_app]
        simp only [countE]; omega
      omega

def GR (s : List UInt8) (ofr : Tok → Int → PR) : Prop := ∀ (t : Tok) (a : Int), 0 ≤ a → a ≤ s.length → (ofr t a).2.2 = 0 → a + countO (ofr t a).1 ≤ (ofr t a).2.1 + 1 ∧ (ofr t a).2.1 ≤ s.length

theorem objR_cnt {s : List UInt8} {ofr : Tok → Int → PR} (h0 : ∀ t a, t.kind = 0 → (ofr t a).2.2 ≠ 0) (hG : GR s ofr) (a : Int) (h : (objR ofr s a).2.2 = 0) : a + countO (objR ofr s a).1 ≤ (objR ofr s a).2.1 ∧ (objR ofr s a).2.1 ≤ s.length := by
  unfold objR at h ⊢
  by_cases he : (nextL s a).2 = 0
  · rw [if_neg (by simp [he])] at h ⊢
    obtain ⟨h1, h2, h3, h4, h5⟩ := nx_prog he
    have hk : (nextL s a).1.kind ≠ 0 := fun hk => h0 _ _ hk h
    have h5 := h5 hk
    obtain ⟨g1, g2⟩ := hG _ _ (by omega) (by omega) h
    exact ⟨by omega, g2⟩
  · rw [if_pos he] at h
    exact absurd h he

theorem arrL_cnt {s : List UInt8} {ofr : Tok → Int → PR} (h0 : ∀ t a, t.kind = 0 → (ofr t a).2.2 ≠ 0) (hG : GR s ofr) : ∀ (n : Nat) (a : Int) (acc : List Ob), (arrL ofr s n a acc).2.2 = 0 →
    a + countO (arrL ofr s n a acc).1 ≤ (arrL ofr s n a acc).2.1 + countL acc ∧ (arrL ofr s n a acc).2.1 ≤ s.length
  | 0, a, acc, h => by simp [arrL] at h
  | n + 1, a, acc, h => by
    unfold arrL at h ⊢
    by_cases he : (nextL s a).2 = 0
    · rw [if_neg (by simp [he])] at h ⊢
      obtain ⟨h1, h2, h3, h4, h5⟩ := nx_prog he
      by_cases hk5 : (nextL s a).1.kind = 5
      · rw [if_pos hk5]
        have h5 := h5 (by omega)
        refine ⟨?_, h4⟩
        simp only [countO, countD]
        omega
      · rw [if_neg hk5] at h ⊢
        by_cases hf : (nextL s a).1.kind ≠ 0 ∧ acc.length = 1024
        · rw [if_pos hf] at h; simp at h
        · rw [if_neg hf] at h ⊢
          by_cases hy : (ofr (nextL s a).1 (nextL s a).1.to).2.2 = 0
          · rw [if_neg (by simp [hy])] at h ⊢
            have hk : (nextL s a).1.kind ≠ 0 := fun hk => h0 _ _ hk hy
            have h5 := h5 hk
            obtain ⟨g1, g2⟩ := hG _ _ (by omega) (by omega) hy
            obtain ⟨k1, k2⟩ := arrL_cnt h0 hG n _ _ h
            rw [countL_snoc] at k1
            exact ⟨by omega, k2⟩
          · rw [if_pos hy] at h; exact absurd h hy
    · rw [if_pos he] at h; exact absurd h he

theorem dicL_cnt {s : List UInt8} {ofr : Tok → Int → PR} (h0 : ∀ t a, t.kind = 0 → (ofr t a).2.2 ≠ 0) (hG : GR s ofr) : ∀ (n : Nat) (a : Int) (acc : List (List UInt8 × Ob)), (dicL ofr s n a acc).2.2 = 0 →
    a + countO (dicL ofr s n a acc).1 ≤ (dicL ofr s n a acc).2.1 + countD acc ∧ (dicL ofr s n a acc).2.1 ≤ s.length
  | 0, a, acc, h => by simp [dicL] at h
  | n + 1, a, acc, h => by
    unfold dicL at h ⊢
    by_cases he : (nextL s a).2 = 0
    · rw [if_neg (by simp [he])] at h ⊢
      obtain ⟨h1, h2, h3, h4, h5⟩ := nx_prog he
      by_cases hk7 : (nextL s a).1.kind = 7
      · rw [if_pos hk7]
        have h5 := h5 (by omega)
        refine ⟨?_, h4⟩
        simp only [countO, countL]
        omega
      · rw [if_neg hk7] at h ⊢
        by_cases hk0 : (nextL s a).1.kind = 0
        · rw [if_pos hk0] at h; simp at h
        · rw [if_neg hk0] at h ⊢
          by_cases hn : n = 0
          · rw [if_pos hn] at h; simp at h
          · rw [if_neg hn] at h ⊢
            by_cases hk2 : (nextL s a).1.kind ≠ 2
            · rw [if_pos hk2] at h; simp at h
            · rw [if_neg hk2] at h ⊢
              by_cases hy : (objR ofr s (nextL s a).1.to).2.2 = 0
              · rw [if_neg (by simp [hy])] at h ⊢
                have h5 := h5 hk0
                obtain ⟨g1, g2⟩ := objR_cnt h0 hG _ hy
                obtain ⟨k1, k2⟩ := dicL_cnt h0 hG n _ _ h
                have := countD_set acc (nextL s a).1.s (objR ofr s (nextL s a).1.to).1
                exact ⟨by omega, k2⟩
              · rw [if_pos hy] at h; exact absurd h hy
    · rw [if_pos he] at h; exact absurd h he

theorem numO_cnt (s : List UInt8) (t : Tok) (a : Int) (h1 : a ≤ s.length) : countO (numO s t a).1 = 1 ∧ a ≤ (numO s t a).2 ∧ (numO s t a).2 ≤ s.length := by
  unfold numO
  split
  · rename_i h
    obtain ⟨_, e1, _, e2, _⟩ := h
    have p1 := nx_prog e1
    have p2 := nx_prog e2
    exact ⟨by simp [countO, countL, countD], by simp only; omega, by simp only; omega⟩
  · exact ⟨by simp [countO, countL, countD], by simp, h1⟩
theorem wordO_cnt (s : List UInt8) : countO (wordO s).1 = 1 := by
  unfold wordO
  split
  · simp [countO, countL, countD]
  · split
    · simp [countO, countL, countD]
    · split <;> simp [ob00, countO, countL, countD]

theorem ofB_cnt {s : List UInt8} {arr dic : Int → PR} (ha : ∀ a, (arr a).2.2 = 0 → a + countO (arr a).1 ≤ (arr a).2.1 ∧ (arr a).2.1 ≤ s.length) (hd : ∀ a, (dic a).2.2 = 0 → a + countO (dic a).1 ≤ (dic a).2.1 ∧ (dic a).2.1 ≤ s.length) : GR s (ofB s arr dic) := by
  intro t a h0 h1 h
  unfold ofB at h ⊢
  by_cases k0 : t.kind = 0
  · rw [if_pos k0] at h; simp at h
  rw [if_neg k0] at h ⊢
  by_cases k1 : t.kind = 1
  · rw [if_pos k1]
    have := numO_cnt s t a h1
    exact ⟨by simp only; omega, by simp only; omega⟩
  rw [if_neg k1] at h ⊢
  by_cases k2 : t.kind = 2
  · rw [if_pos k2]; exact ⟨by simp [countO, countL, countD], h1⟩
  rw [if_neg k2] at h ⊢
  by_cases k3 : t.kind = 3
  · rw [if_pos k3]; exact ⟨by simp [countO, countL, countD], h1⟩
  rw [if_neg k3] at h ⊢
  by_cases k4 : t.kind = 4
  · rw [if_pos k4] at h ⊢
    have := ha a h
    exact ⟨by omega, this.2⟩
  rw [if_neg k4] at h ⊢
  by_cases k6 : t.kind = 6
  · rw [if_pos k6] at h ⊢
    have := hd a h
    exact ⟨by omega, this.2⟩
  rw [if_neg k6] at h ⊢
  by_cases k8 : t.kind = 8
  · rw [if_pos k8]
    have := wordO_cnt t.s
    exact ⟨by simp only; omega, h1⟩
  rw [if_neg k8] at h
  simp at h

theorem ofL_end2 (s : List UInt8) (r : Nat) : ∀ t a, t.kind = 0 → (ofL s r t a).2.2 ≠ 0 := by
  intro t a h
  cases r with
  | zero => unfold ofL; rw [ofB_end h]; decide
  | succ r => unfold ofL; rw [ofB_end h]; decide
theorem ofL_cnt (s : List UInt8) : ∀ r, GR s (ofL s r)
  | 0 => by
    unfold ofL
    exact ofB_cnt (fun a h => by simp at h) (fun a h => by simp at h)
  | r + 1 => by
    unfold ofL
    exact ofB_cnt (fun a h => by have := arrL_cnt (ofL_end2 s r) (ofL_cnt s r) 1025 a [] h; simpa [countL] using this) (fun a h => by have := dicL_cnt (ofL_end2 s r) (ofL_cnt s r) 1025 a [] h; simpa [countD] using this)

theorem opObj_cnt (s : List UInt8) (t : Tok) (h : (opObj s t).2.2 = 0) : (countO (opObj s t).1 : Int) ≤ s.length + 1 := by
  unfold opObj at h ⊢
  by_cases hk : t.kind ≠ 1
  · simp only [if_pos hk] at h ⊢
    unfold parseR at h ⊢
    by_cases he : (objR (ofL s 64) s t.from_).2.2 = 0
    · rw [if_pos he]
      have := objR_cnt (ofL_end2 s 64) (ofL_cnt s 64) _ he
      omega
    · rw [if_neg he] at h
      exact absurd h he
  · simp only [if_neg hk]
    simp [countO, countL, countD]
    omega

theorem parO_cnt (s : List UInt8) : ∀ (n : Nat) (a : Int) (out : List OpL) (args : List Ob), out.length ≤ 65536 → args.length ≤ 64 → (∀ p ∈ out, p.2.length ≤ 64 ∧ ∀ o ∈ p.2, (countO o : Int) ≤ s.length + 1) → (∀ o ∈ args, (countO o : Int) ≤ s.length + 1) →
    (parO s n a out args).1.length ≤ 65536 ∧ ∀ p ∈ (parO s n a out args).1, p.2.length ≤ 64 ∧ ∀ o ∈ p.2, (countO o : Int) ≤ s.length + 1
  | 0, a, out, args, _, _, _, _ => by simp [parO]
  | n + 1, a, out, args, h1, h2, h3, h4 => by
    unfold parO
    split
    · simp
    · split
      · exact ⟨h1, h3⟩
      · split
        · simp
        · split
          · simp
          · rename_i hl
            split
            · rename_i ho
              refine parO_cnt s n _ _ _ ?_ (by simp) ?_ (by simp)
              · have : out.length ≠ 65536 := fun h => hl (.inl ⟨ho, h⟩)
                simp; omega
              · intro p hp
                rcases List.mem_append.1 hp with hp | hp
                · exact h3 p hp
                · simp at hp
                  subst hp
                  exact ⟨h2, h4⟩
            · rename_i ho
              split
              · simp
              · rename_i he
                refine parO_cnt s n _ _ _ h1 ?_ h3 ?_
                · have : args.length ≠ 64 := fun h => hl (.inr ⟨by simpa using ho, h⟩)
                  simp; omega
                · intro o hp
                  rcases List.mem_append.1 hp with hp | hp
                  · exact h4 o hp
                  · simp at hp
                    subst hp
                    exact opObj_cnt s _ (Decidable.not_not.mp he)
end Ink.D
