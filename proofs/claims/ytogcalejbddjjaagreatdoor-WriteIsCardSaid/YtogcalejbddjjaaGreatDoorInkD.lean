import Derived.Test.YtogcalejbddjjaaGreatDoorInkBB
set_option linter.all false
namespace Ink
open Go
section
variable {E : Env} {n0 : List Blk}

theorem setK_mono {α : Type} (l : List α) (n : Nat) (v : α) {K K' : List α → Prop} (hk : ∀ x, K x → K' x) (h : setK l n v K) : setK l n v K' := by
  rw [setK_eq] at h ⊢
  exact hk _ h

theorem putK_mono {tm : List AV} {d : Option Nat} {v : AV} {K K' : List AV → Prop} (hk : ∀ x, K x → K' x) (h : putK tm d v K) : putK tm d v K' := by
  unfold putK at h ⊢
  cases d with
  | none => exact hk _ h
  | some t =>
    simp only [fv_eq] at h ⊢
    exact setK_mono _ _ _ hk h

theorem resK_mono {r : Res} {tm : List AV} {d : Option Nat} {K K' : St → Prop} (hk : ∀ x, K x → K' x) (h : resK r tm d K) : resK r tm d K' := by
  unfold resK at h ⊢
  cases r with
  | ok v H => exact putK_mono (fun _ => hk _) h
  | okIf p v H => exact ⟨h.1, putK_mono (fun _ => hk _) h.2⟩
  | bad => exact h

theorem CallG_mono {fv : AV} {args : List AV} {s : St} {K K' : AV → St → Prop} (hk : ∀ r x, K r x → K' r x) (h : CallG E n0 fv args s K) : CallG E n0 fv args s K' := by
  unfold CallG at h ⊢
  obtain ⟨f, first, cap, s', args', h1, h2, h3⟩ := h
  exact ⟨f, first, cap, s', args', h1, h2, h3.mono fun _ _ => hk _ _⟩

theorem CallQ_mono {fv : AV} {args : List AV} {s : St} {K K' : AV → St → Prop} (hk : ∀ r x, K r x → K' r x) (h : CallQ E fv args s K) : CallQ E fv args s K' := by
  unfold CallQ at h ⊢
  obtain ⟨f, first, cap, r, h1, h2, h3⟩ := h
  exact ⟨f, first, cap, r, h1, h2, hk _ _ h3⟩

theorem CallP_mono {fv : AV} {args : List AV} {s : St} {K K' : AV → St → Prop} (hk : ∀ r x, K r x → K' r x) (h : CallP E fv args s K) : CallP E fv args s K' := by
  unfold CallP at h ⊢
  obtain ⟨f, first, cap, r, h1, h2, h3⟩ := h
  exact ⟨f, first, cap, r, h1, h2, hk _ _ h3⟩

theorem CallD_mono {fv : AV} {args : List AV} {s : St} {K K' : AV → St → Prop} (hk : ∀ r x, K r x → K' r x) (h : CallD E fv args s K) : CallD E fv args s K' := by
  unfold CallD at h ⊢
  obtain ⟨f, first, cap, r, H1, h1, h2, h3⟩ := h
  exact ⟨f, first, cap, r, H1, h1, h2, hk _ _ h3⟩

theorem effK_mono {dr : Bool} {o : AO} {s : St} {K K' : St → Prop} (hk : ∀ x, K x → K' x) (h : effK E n0 dr o s K) : effK E n0 dr o s K' := by
  rw [effK_eq] at h ⊢
  split at h
  · split at h
    · exact CallG_mono (fun _ _ => putK_mono fun _ => hk _) h
    · exact CallQ_mono (fun _ _ => putK_mono fun _ => hk _) h
    · exact CallD_mono (fun _ _ => putK_mono fun _ => hk _) h
  · exact CallP_mono (fun _ _ => putK_mono fun _ => hk _) h
  · exact resK_mono hk h

theorem opK_mono {dr : Bool} {o : AO} {s : St} {K K' : St → Prop} (hk : ∀ x, K x → K' x) (h : opK E n0 dr o s K) : opK E n0 dr o s K' := by
  rw [opK_eq] at h ⊢
  split at h
  · exact effK_mono hk h
  · split at h
    · split at h
      · rw [setK_eq] at h ⊢
        split at h
        · exact effK_mono hk h
        · exact putK_mono (fun _ => hk _) h
      · rw [setK_eq] at h ⊢
        split at h
        · exact effK_mono hk h
        · exact putK_mono (fun _ => hk _) h
    · exact putK_mono (fun _ => hk _) h
    · exact h

theorem opsK_mono' {dr : Bool} : ∀ {l : List AO} {s : St} {K K' : St → Prop}, (∀ x, K x → K' x) → opsK E n0 dr l s K → opsK E n0 dr l s K'
  | [], s, K, K', hk, h => hk _ h
  | o :: r, s, K, K', hk, h => opK_mono (fun _ => opsK_mono' hk) h

theorem wpc_mono : ∀ {a : AC} {Q Q' : Ex → St → Prop} {s : St}, (∀ e x, Q e x → Q' e x) → wpc E n0 a Q s → wpc E n0 a Q' s
  | .skip, Q, Q', s, hq, h => hq _ _ h
  | .ret, Q, Q', s, hq, h => hq _ _ h
  | .exit id, Q, Q', s, hq, h => hq _ _ h
  | .seq a b, Q, Q', s, hq, h => by
    simp only [wpc] at h ⊢
    refine wpc_mono (a := a) (fun e x hx => ?_) h
    cases e with
    | normal => exact wpc_mono (a := b) hq hx
    | exit i => exact hq _ _ hx
    | ret => exact hq _ _ hx
    | goto l => exact hq _ _ hx
  | .cond c a b, Q, Q', s, hq, h => by
    simp only [wpc, condK] at h ⊢
    split at h
    · split at h
      · split at h
        · exact setK_mono _ _ _ (fun _ => wpc_mono (a := a) hq) h
        · exact setK_mono _ _ _ (fun _ => wpc_mono (a := b) hq) h
      · exact h
    · split at h
      · exact wpc_mono (a := a) hq h
      · exact wpc_mono (a := b) hq h
    · exact h
  | .block id b, Q, Q', s, hq, h => by
    simp only [wpc] at h ⊢
    refine wpc_mono (a := b) (fun e x hx => ?_) h
    cases e with
    | normal => exact hq _ _ hx
    | exit i =>
      simp only [blockQ] at hx ⊢
      split at hx <;> exact hq _ _ hx
    | ret => exact hq _ _ hx
    | goto l => exact hq _ _ hx
  | .loop b, Q, Q', s, hq, h => by
    simp only [wpc] at h ⊢
    unfold LoopG at h ⊢
    obtain ⟨α, I, m, x0, h1, h2⟩ := h
    refine ⟨α, I, m, x0, h1, fun x => wpc_mono (a := b) (fun e y hy => ?_) (h2 x)⟩
    cases e with
    | normal => exact hy
    | exit i => exact hq _ _ hy
    | ret => exact hq _ _ hy
    | goto l => exact hq _ _ hy
  | .region ops dr, Q, Q', s, hq, h => by
    simp only [wpc] at h ⊢
    exact opsK_mono' (fun _ => hq _ _) h
  | .label l, Q, Q', s, hq, h => hq _ _ h
  | .goto l, Q, Q', s, hq, h => hq _ _ h
  | .scope l p b, Q, Q', s, hq, h => by
    simp only [wpc] at h ⊢
    refine wpc_mono (a := p) (fun e x hx => ?_) h
    cases e with
    | normal =>
      simp only [scopeQ] at hx ⊢
      unfold LoopJ at hx ⊢
      obtain ⟨α, I, m, x0, h1, h2⟩ := hx
      refine ⟨α, I, m, x0, h1, fun x => wpc_mono (a := b) (fun e y hy => ?_) (h2 x)⟩
      cases e with
      | normal => exact hq _ _ hy
      | exit i => exact hq _ _ hy
      | ret => exact hq _ _ hy
      | goto k => exact hy
    | exit i => exact hq _ _ hx
    | ret => exact hq _ _ hx
    | goto k => exact hx

/-- the first k of a row of steps, and the others -/
def firstN : Nat → AC → AC
  | 0, _ => .skip
  | k + 1, .seq a b => .seq a (firstN k b)
  | _, c => c
def dropN : Nat → AC → AC
  | 0, c => c
  | k + 1, .seq _ b => dropN k b
  | _, _ => .skip

theorem wpc_cut : ∀ (k : Nat) (a : AC) (Q : Ex → St → Prop) (s : St) (R : St → Prop), wpc E n0 (firstN k a) (thenQ R Q) s → (∀ s', R s' → wpc E n0 (dropN k a) Q s') → wpc E n0 a Q s
  | 0, a, Q, s, R, h, hr => hr _ h
  | k + 1, .seq a b, Q, s, R, h, hr => by
    simp only [firstN, wpc] at h ⊢
    refine wpc_mono (a := a) (fun e x hx => ?_) h
    cases e with
    | normal => exact wpc_cut k b Q x R hx hr
    | exit i => exact hx
    | ret => exact hx
    | goto k => exact hx
  | k + 1, .skip, Q, s, R, h, hr => hr _ h
  | k + 1, .ret, Q, s, R, h, hr => h
  | k + 1, .exit i, Q, s, R, h, hr => h
  | k + 1, .cond c a b, Q, s, R, h, hr => wpc_mono (fun e x hx => by cases e with
    | normal => exact hr _ hx
    | exit i => exact hx
    | ret => exact hx
    | goto k => exact hx) h
  | k + 1, .block i a, Q, s, R, h, hr => wpc_mono (fun e x hx => by cases e with
    | normal => exact hr _ hx
    | exit i => exact hx
    | ret => exact hx
    | goto k => exact hx) h
  | k + 1, .loop a, Q, s, R, h, hr => wpc_mono (fun e x hx => by cases e with
    | normal => exact hr _ hx
    | exit i => exact hx
    | ret => exact hx
    | goto k => exact hx) h
  | k + 1, .region a d, Q, s, R, h, hr => wpc_mono (fun e x hx => by cases e with
    | normal => exact hr _ hx
    | exit i => exact hx
    | ret => exact hx
    | goto k => exact hx) h
  | k + 1, .label l, Q, s, R, h, hr => hr _ h
  | k + 1, .goto l, Q, s, R, h, hr => h
  | k + 1, .scope l p b, Q, s, R, h, hr => wpc_mono (fun e x hx => by cases e with
    | normal => exact hr _ hx
    | exit i => exact hx
    | ret => exact hx
    | goto k => exact hx) h

/-- some slots known, whatever the others -/
def slotsJ (junk : Nat → AV) (l : List (Nat × AV)) : Nat → Nat → List AV
  | 0, _ => []
  | n + 1, i => look l i :: slotsJ junk l n (i + 1)
where
  look : List (Nat × AV) → Nat → AV
  | [], i => junk i
  | (j, v) :: r, i => match Nat.beq j i with
    | true => v
    | false => look r i

/-- what a list has, as junk -/
def jk (tm : List AV) (i : Nat) : AV := (getK tm i).getD .top

/-- the same, laid out -/
def slotsJK {β : Type} (junk : Nat → AV) (l : List (Nat × AV)) : Nat → Nat → (List AV → β) → β
  | 0, _, K => K []
  | n + 1, i, K => slotsJK junk l n (i + 1) fun r => K (slotsJ.look junk l i :: r)

theorem slotsJK_eq {β : Type} (junk : Nat → AV) (l : List (Nat × AV)) : ∀ (n i : Nat) (K : List AV → β), slotsJK junk l n i K = K (slotsJ junk l n i)
  | 0, _, _ => rfl
  | n + 1, i, K => by simp only [slotsJK, slotsJK_eq junk l n (i + 1), slotsJ]

/-- a place where ways meet: behind k steps -/
theorem wpc_join {a : AC} {Q : Ex → St → Prop} {s : St} {α : Type} (k n : Nat) (Inv : α → Prop) (l : α → List (Nat × AV)) (H : α → List Blk)
    (h : wpc E n0 (firstN k a) (thenQ (fun s' => ∃ (x : α), Inv x ∧ s'.H = H x ∧ slotsJ (jk s'.tm) (l x) n 0 = s'.tm) Q) s)
    (hr : ∀ (x : α) (junk : Nat → AV), Inv x → slotsJK junk (l x) n 0 fun tm => wpc E n0 (dropN k a) Q ⟨tm, H x⟩) : wpc E n0 a Q s :=
  wpc_cut k a Q s _ h fun s' ⟨x, hx, h1, h2⟩ => by
    have := hr x (jk s'.tm) hx
    rw [slotsJK_eq, h2, ← h1] at this
    exact this
end
end Ink

namespace Ink
open Go
variable {E : Env} {n0 : List Blk}

theorem Ext.cut' {c0 c : Cx} {n : Nat} (e : Ext c0 c) (h1 : c0.H.length ≤ n) (h2 : n ≤ c.H.length) : Ext c0 (c.cut n) where
  n := by simp [Cx.cut]; omega
  old := fun i v m v' m' h h' => e.old i v m v' m' h (by rw [cut_θ c (Nat.lt_of_lt_of_le (θ_lt h) h1)] at h'; exact h')
  dead := fun i hi h => by rw [cut_θ c (Nat.lt_of_lt_of_le hi h1)]; exact e.dead i hi h
  os := e.os
  tape := e.tape
  output := e.output
  size := e.size
  same := e.same
  own := fun x h => e.own x (cut_O h)

theorem GOk.cut {c : Cx} {n : Nat} (h : GOk E c) : GOk E (c.cut n) := ⟨h.le, fun x hx => ⟨(h.at_ x hx).1, fun ho => (h.at_ x hx).2 (cut_O ho)⟩⟩

/-- slots, published -/
def HasP (H : List Blk) (n : Nat) (tm : List AV) : List (Nat × AV) → Prop
  | [] => True
  | (i, v) :: r => (∃ a, getK tm i = some a ∧ Pub H n a v) ∧ HasP H n tm r

theorem hasP_mem {H : List Blk} {n : Nat} {tm : List AV} : ∀ {l : List (Nat × AV)}, HasP H n tm l → ∀ p ∈ l, ∃ a, tm[p.1]? = some a ∧ Pub H n a p.2
  | [], _, p, h => by simp at h
  | (i, v) :: r, h, p, hp => by
    obtain ⟨⟨a, h1, h2⟩, h3⟩ := h
    rcases List.mem_cons.mp hp with hp | hp
    · subst hp; exact ⟨a, by rwa [getK_eq] at h1, h2⟩
    · exact hasP_mem h3 p hp

theorem TR.cut {c : Cx} {tm : List AV} {tmps : Array Value} (h : TR c tm tmps) (hr : HR c) {n : Nat} (hn : n ≤ c.H.length) {l : List (Nat × AV)} (hl : HasP c.H n tm l) {m : Nat} (hm : lenK tm = m) : TR (c.cut n) (Ink.slots m l) tmps := by
  rw [lenK_eq] at hm
  obtain ⟨h1, h2⟩ := slots_go l m 0
  refine ⟨by show (slots.go m l 0).length = _; rw [h1, ← hm]; exact h.len, fun t x v hx hv => ?_⟩
  have ht : t < m := by
    rw [← h1]
    rcases Nat.lt_or_ge t (slots.go m l 0).length with h' | h'
    · exact h'
    · rw [show (Ink.slots m l) = slots.go m l 0 from rfl, List.getElem?_eq_none h'] at hx; cases hx
  rw [show (Ink.slots m l) = slots.go m l 0 from rfl, h2 t ht, Nat.zero_add] at hx
  cases hx
  rcases slots_at l t with h3 | ⟨p, hp, h3, h4⟩
  · rw [h3]; exact .top v
  · rw [h4]
    obtain ⟨a, ha, hpub⟩ := hasP_mem hl p hp
    rw [h3] at ha
    exact Pub.vr hr hn hpub (h.at_ t _ v ha hv)

/-- what was made behind the first n blocks is let go, or read from now on alone -/
theorem Wk.cut {tm : List AV} {H H' : List Blk} {l : List (Nat × AV)} {m : Nat} (n : Nat) (h0 : Nat.ble (lenK n0) n = true) (hn : Nat.ble n (lenK H) = true) (hm : lenK tm = m) (hl : HasP H n tm l) (hH' : takeK n H id = H') (hh : hbH n H' = true) :
    Wk E n0 ⟨tm, H⟩ ⟨Ink.slots m l, H'⟩ := by
  rw [takeK_eq] at hH'
  have h0 := Nat.le_of_ble_eq_true h0
  have hn := Nat.le_of_ble_eq_true hn
  rw [lenK_eq] at h0 hn
  unfold Wk
  intro c0 c a hc hs
  have hcH : c.H = H := hs.H
  have hcut : c.H.take n = H' := by rw [hcH]; exact hH'
  have hle : n ≤ c.H.length := by rw [hcH]; exact hn
  exact ⟨c.cut n, rfl, ⟨hcut, hs.hr.cut hle (by rw [hcut]; exact hh), hs.tr.cut hs.hr hle (hcH ▸ hl) hm, hs.ext.cut' (by rw [hc.1]; exact h0) hle, hs.g.cut, hs.defers⟩⟩

/-- elementwise -/
def PubL (H : List Blk) (n : Nat) : List AV → List AV → Prop
  | [], [] => True
  | x :: xs, y :: ys => Pub H n x y ∧ PubL H n xs ys
  | _, _ => False

theorem PubL.spec {H : List Blk} {n : Nat} : ∀ {l m : List AV}, PubL H n l m → l.length = m.length ∧ ∀ (j : Nat) (x y : AV), l[j]? = some x → m[j]? = some y → Pub H n x y
  | [], [], _ => ⟨rfl, fun j x y h => by simp at h⟩
  | x :: xs, y :: ys, h => by
    obtain ⟨h1, h2⟩ := h
    obtain ⟨i1, i2⟩ := PubL.spec h2
    refine ⟨by simp [i1], fun j u v hu hv => ?_⟩
    cases j with
    | zero => simp at hu hv; subst hu hv; exact h1
    | succ j => simp at hu hv; exact i2 j u v hu hv
  | [], _ :: _, h => h.elim
  | _ :: _, [], h => h.elim

/-- a call whose arguments are published: what was made behind the first n blocks is read from now on alone -/
theorem CallG.cut {f : FuncId} {first args cap : List AV} {tm : List AV} {H H' : List Blk} {K : AV → St → Prop} (n : Nat) (l : List (Nat × AV)) (args' : List AV) (m : Nat) (hm : lenK tm = m) (h0 : Nat.ble (lenK n0) n = true) (hn : Nat.ble n (lenK H) = true)
    (hl : HasP H n tm l) (hH' : takeK n H id = H') (hh : hbH n H' = true) (ha : PubL H n (first ++ args ++ cap) args') (h : ACalls E f args' H' fun r H'' => slotsK m l 0 fun tm' => K r ⟨tm', H''⟩) : CallG E n0 (.fn (.func f) first cap) args ⟨tm, H⟩ K := by
  unfold CallG
  refine ⟨f, first, cap, ⟨Ink.slots m l, H'⟩, args', rfl, ?_, h.mono fun r H'' hk => by rw [slotsK_eq] at hk; exact hk⟩
  rw [takeK_eq] at hH'
  have h0 := Nat.le_of_ble_eq_true h0
  have hn := Nat.le_of_ble_eq_true hn
  rw [lenK_eq] at h0 hn
  unfold WkL
  intro c0 c a vs hc hs hv
  have hcH : c.H = H := hs.H
  have hcut : c.H.take n = H' := by rw [hcH]; exact hH'
  have hle : n ≤ c.H.length := by rw [hcH]; exact hn
  obtain ⟨g1, g2⟩ := ha.spec
  refine ⟨c.cut n, rfl, ⟨hcut, hs.hr.cut hle (by rw [hcut]; exact hh), hs.tr.cut hs.hr hle (hcH ▸ hl) hm, hs.ext.cut' (by rw [hc.1]; exact h0) hle, hs.g.cut, hs.defers⟩, ⟨g1.symm.trans hv.len, fun j x v hx hvv => ?_⟩⟩
  have hj := getElem?_lt hx
  have hy := List.getElem?_eq_getElem (l := first ++ args ++ cap) (i := j) (by omega)
  exact Pub.vr hs.hr hle (hcH ▸ g2 j _ x hy hx) (hv.at_ j _ v hy hvv)

/-- a call in a region that draws, handed some of the caller's blocks -/
theorem CallD.b {f : FuncId} {first args cap : List AV} {s : St} {K : AV → St → Prop} {args0 : List AV} {ks ks1 : List BK} {r : AV} (sel : List (Nat × Nat)) (h : BCalls E f args0 ks fun r' ks' => r' = r ∧ ks' = ks1)
    (hsel : Sel s.H sel ks) (hren : RenL sel args0 (first ++ args ++ cap)) (k : K r ⟨s.tm, putB s.H sel ks1⟩)
    (hks : (ks.all bkFree) = true := by rfl) (hnd : (sel.map (·.1)).Nodup := by decide) : CallD E (.fn (.func f) first cap) args s K := by
  obtain ⟨h1, h2⟩ := hsel.spec
  obtain ⟨h3, h4⟩ := hren.spec
  unfold CallD
  exact ⟨f, first, cap, r, _, rfl, (h.lift sel hnd h1 hks h3 h4 h2).mono fun r' H' ⟨g1, ks', g2, g3, g4⟩ => ⟨g3.1, g4.trans (by rw [g3.2])⟩, k⟩

theorem PCalls.a {f : FuncId} {args : List AV} {H : List Blk} {Q : AV → Prop} (h : PCalls E f args Q) {Q' : AV → List Blk → Prop} (hq : ∀ r, Q r → Q' r H) : ACalls E f args H Q' := by
  unfold PCalls at h
  exact (h H).mono fun r H' ⟨h1, h2⟩ => h2 ▸ hq r h1
end Ink
