import Derived.Test.YtipdgghfkdlfmaaDoorInkB
set_option linter.all false
namespace Ink
open Go
section
variable {E : Env} {n0 : List Blk}

theorem setK_mono {α : Type} (l : List α) (n : Nat) (v : α) {K K' : List α → Prop} (hk : ∀ x, K x → K' x) (h : setK l n v K) : setK l n v K' := by
  rw [setK_eq] at h ⊢
  exact hk _ h

theorem putK_mono {tm : List AV} {d : Option Nat} {v : AV} {K K' : List AV → Prop} (hk : ∀ x, K x → K' x) (h : putK tm d v K) : putK tm d v K' := by
  unfold putK at h ⊢
  cases d with
  | none => exact hk _ h
  | some t =>
    simp only [fv_eq] at h ⊢
    exact setK_mono _ _ _ hk h

theorem resK_mono {r : Res} {tm : List AV} {d : Option Nat} {K K' : St → Prop} (hk : ∀ x, K x → K' x) (h : resK r tm d K) : resK r tm d K' := by
  unfold resK at h ⊢
  cases r with
  | ok v H => exact putK_mono (fun _ => hk _) h
  | okIf p v H => exact ⟨h.1, putK_mono (fun _ => hk _) h.2⟩
  | bad => exact h

theorem CallG_mono {fv : AV} {args : List AV} {s : St} {K K' : AV → St → Prop} (hk : ∀ r x, K r x → K' r x) (h : CallG E n0 fv args s K) : CallG E n0 fv args s K' := by
  unfold CallG at h ⊢
  obtain ⟨f, first, cap, s', args', h1, h2, h3⟩ := h
  exact ⟨f, first, cap, s', args', h1, h2, h3.mono fun _ _ => hk _ _⟩

theorem CallQ_mono {fv : AV} {args : List AV} {s : St} {K K' : AV → St → Prop} (hk : ∀ r x, K r x → K' r x) (h : CallQ E fv args s K) : CallQ E fv args s K' := by
  unfold CallQ at h ⊢
  obtain ⟨f, first, cap, r, h1, h2, h3⟩ := h
  exact ⟨f, first, cap, r, h1, h2, hk _ _ h3⟩

theorem CallD_mono {fv : AV} {args : List AV} {s : St} {K K' : AV → St → Prop} (hk : ∀ r x, K r x → K' r x) (h : CallD E fv args s K) : CallD E fv args s K' := by
  unfold CallD at h ⊢
  obtain ⟨f, first, cap, r, H1, h1, h2, h3⟩ := h
  exact ⟨f, first, cap, r, H1, h1, h2, hk _ _ h3⟩

theorem effK_mono {dr : Bool} {o : AO} {s : St} {K K' : St → Prop} (hk : ∀ x, K x → K' x) (h : effK E n0 dr o s K) : effK E n0 dr o s K' := by
  rw [effK_eq] at h ⊢
  split at h
  · split at h
    · exact CallG_mono (fun _ _ => putK_mono fun _ => hk _) h
    · exact CallQ_mono (fun _ _ => putK_mono fun _ => hk _) h
    · exact CallD_mono (fun _ _ => putK_mono fun _ => hk _) h
  · exact resK_mono hk h

theorem opK_mono {dr : Bool} {o : AO} {s : St} {K K' : St → Prop} (hk : ∀ x, K x → K' x) (h : opK E n0 dr o s K) : opK E n0 dr o s K' := by
  rw [opK_eq] at h ⊢
  split at h
  · exact effK_mono hk h
  · split at h
    · split at h
      · rw [setK_eq] at h ⊢
        split at h
        · exact effK_mono hk h
        · exact putK_mono (fun _ => hk _) h
      · rw [setK_eq] at h ⊢
        split at h
        · exact effK_mono hk h
        · exact putK_mono (fun _ => hk _) h
    · exact putK_mono (fun _ => hk _) h
    · exact h

theorem opsK_mono' {dr : Bool} : ∀ {l : List AO} {s : St} {K K' : St → Prop}, (∀ x, K x → K' x) → opsK E n0 dr l s K → opsK E n0 dr l s K'
  | [], s, K, K', hk, h => hk _ h
  | o :: r, s, K, K', hk, h => opK_mono (fun _ => opsK_mono' hk) h

theorem wpc_mono : ∀ {a : AC} {Q Q' : Ex → St → Prop} {s : St}, (∀ e x, Q e x → Q' e x) → wpc E n0 a Q s → wpc E n0 a Q' s
  | .skip, Q, Q', s, hq, h => hq _ _ h
  | .ret, Q, Q', s, hq, h => hq _ _ h
  | .exit id, Q, Q', s, hq, h => hq _ _ h
  | .seq a b, Q, Q', s, hq, h => by
    simp only [wpc] at h ⊢
    refine wpc_mono (a := a) (fun e x hx => ?_) h
    cases e with
    | normal => exact wpc_mono (a := b) hq hx
    | exit i => exact hq _ _ hx
    | ret => exact hq _ _ hx
  | .cond c a b, Q, Q', s, hq, h => by
    simp only [wpc, condK] at h ⊢
    split at h
    · split at h
      · split at h
        · exact setK_mono _ _ _ (fun _ => wpc_mono (a := a) hq) h
        · exact setK_mono _ _ _ (fun _ => wpc_mono (a := b) hq) h
      · exact h
    · split at h
      · exact wpc_mono (a := a) hq h
      · exact wpc_mono (a := b) hq h
    · exact h
  | .block id b, Q, Q', s, hq, h => by
    simp only [wpc] at h ⊢
    refine wpc_mono (a := b) (fun e x hx => ?_) h
    cases e with
    | normal => exact hq _ _ hx
    | exit i =>
      simp only [blockQ] at hx ⊢
      split at hx <;> exact hq _ _ hx
    | ret => exact hq _ _ hx
  | .loop b, Q, Q', s, hq, h => by
    simp only [wpc] at h ⊢
    unfold LoopG at h ⊢
    obtain ⟨α, I, m, x0, h1, h2⟩ := h
    refine ⟨α, I, m, x0, h1, fun x => wpc_mono (a := b) (fun e y hy => ?_) (h2 x)⟩
    cases e with
    | normal => exact hy
    | exit i => exact hq _ _ hy
    | ret => exact hq _ _ hy
  | .region ops dr, Q, Q', s, hq, h => by
    simp only [wpc] at h ⊢
    exact opsK_mono' (fun _ => hq _ _) h

/-- the first k of a row of steps, and the others -/
def firstN : Nat → AC → AC
  | 0, _ => .skip
  | k + 1, .seq a b => .seq a (firstN k b)
  | _, c => c
def dropN : Nat → AC → AC
  | 0, c => c
  | k + 1, .seq _ b => dropN k b
  | _, _ => .skip

theorem wpc_cut : ∀ (k : Nat) (a : AC) (Q : Ex → St → Prop) (s : St) (R : St → Prop), wpc E n0 (firstN k a) (thenQ R Q) s → (∀ s', R s' → wpc E n0 (dropN k a) Q s') → wpc E n0 a Q s
  | 0, a, Q, s, R, h, hr => hr _ h
  | k + 1, .seq a b, Q, s, R, h, hr => by
    simp only [firstN, wpc] at h ⊢
    refine wpc_mono (a := a) (fun e x hx => ?_) h
    cases e with
    | normal => exact wpc_cut k b Q x R hx hr
    | exit i => exact hx
    | ret => exact hx
  | k + 1, .skip, Q, s, R, h, hr => hr _ h
  | k + 1, .ret, Q, s, R, h, hr => h
  | k + 1, .exit i, Q, s, R, h, hr => h
  | k + 1, .cond c a b, Q, s, R, h, hr => wpc_mono (fun e x hx => by cases e with
    | normal => exact hr _ hx
    | exit i => exact hx
    | ret => exact hx) h
  | k + 1, .block i a, Q, s, R, h, hr => wpc_mono (fun e x hx => by cases e with
    | normal => exact hr _ hx
    | exit i => exact hx
    | ret => exact hx) h
  | k + 1, .loop a, Q, s, R, h, hr => wpc_mono (fun e x hx => by cases e with
    | normal => exact hr _ hx
    | exit i => exact hx
    | ret => exact hx) h
  | k + 1, .region a d, Q, s, R, h, hr => wpc_mono (fun e x hx => by cases e with
    | normal => exact hr _ hx
    | exit i => exact hx
    | ret => exact hx) h

/-- some slots known, whatever the others -/
def slotsJ (junk : Nat → AV) (l : List (Nat × AV)) : Nat → Nat → List AV
  | 0, _ => []
  | n + 1, i => look l i :: slotsJ junk l n (i + 1)
where
  look : List (Nat × AV) → Nat → AV
  | [], i => junk i
  | (j, v) :: r, i => match Nat.beq j i with
    | true => v
    | false => look r i

/-- what a list has, as junk -/
def jk (tm : List AV) (i : Nat) : AV := (getK tm i).getD .top

/-- the same, laid out -/
def slotsJK {β : Type} (junk : Nat → AV) (l : List (Nat × AV)) : Nat → Nat → (List AV → β) → β
  | 0, _, K => K []
  | n + 1, i, K => slotsJK junk l n (i + 1) fun r => K (slotsJ.look junk l i :: r)

theorem slotsJK_eq {β : Type} (junk : Nat → AV) (l : List (Nat × AV)) : ∀ (n i : Nat) (K : List AV → β), slotsJK junk l n i K = K (slotsJ junk l n i)
  | 0, _, _ => rfl
  | n + 1, i, K => by simp only [slotsJK, slotsJK_eq junk l n (i + 1), slotsJ]

/-- a place where ways meet: behind k steps -/
theorem wpc_join {a : AC} {Q : Ex → St → Prop} {s : St} {α : Type} (k n : Nat) (Inv : α → Prop) (l : α → List (Nat × AV)) (H : α → List Blk)
    (h : wpc E n0 (firstN k a) (thenQ (fun s' => ∃ (x : α), Inv x ∧ s'.H = H x ∧ slotsJ (jk s'.tm) (l x) n 0 = s'.tm) Q) s)
    (hr : ∀ (x : α) (junk : Nat → AV), Inv x → slotsJK junk (l x) n 0 fun tm => wpc E n0 (dropN k a) Q ⟨tm, H x⟩) : wpc E n0 a Q s :=
  wpc_cut k a Q s _ h fun s' ⟨x, hx, h1, h2⟩ => by
    have := hr x (jk s'.tm) hx
    rw [slotsJK_eq, h2, ← h1] at this
    exact this
end
end Ink
