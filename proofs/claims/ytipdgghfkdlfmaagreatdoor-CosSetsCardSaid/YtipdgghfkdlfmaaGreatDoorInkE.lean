import Derived.Test.YtipdgghfkdlfmaaGreatDoorInkD
set_option linter.all false
namespace Ink
open Go
section
variable {E : Env} {n0 : List Blk} {c0 : Cx}

open Classical in
theorem wpc_sound_seq (hm : E.P.follows .mixedOrders = true) {mt : Tmp → Bool} (hn0 : (c0.H = n0 ∧ HR c0)) {cd : Code} {ac bc : AC} (h : cCode E.P mt cd = some (.seq ac bc)) (Q : Ex → St → Prop) (s s1 : St) (c : Cx) (a : Act)
    (h1 : wpc E n0 ac (thenQ (fun s' => Wk E n0 s' s1) Q) s) (h2 : wpc E n0 bc Q s1) (hs : Sim E c0 s c a) : cd.wp E.P (PostR E c0 Q) a c.w := by
  cases cd <;> simp only [cCode] at h <;> first | (cases h; done) | skip
  case seq x y =>
    split at h
    · rename_i ax ay hx hy
      cases h
      refine wp_seq (wp_mono (wpc_sound hm hn0 x ac hx _ s c a h1 hs) (fun e a' w' hq => ?_))
      cases e with
      | normal =>
        obtain ⟨s', c', rfl, hq, hs'⟩ := hq
        have hq : Wk E n0 s' s1 := hq
        unfold Wk at hq
        obtain ⟨c'', hw, hs''⟩ := hq c0 c' a' hn0 hs'
        rw [← hw]
        exact wpc_sound hm hn0 y bc hy Q s1 c'' a' h2 hs''
      | exit i => exact hq
      | ret => exact hq
      | goto l => exact hq
      | panic ch => exact hq.elim
      | outgrown => exact hq.elim
    · cases h
  all_goals
    first
    | (split at h <;> first | (cases h; done) | (split at h <;> first | (cases h; done) | (split at h <;> cases h; done)))

/-- A function is entered; behind its first part the state is known otherwise. -/
theorem ACalls.enterW {E : Env} {f : FuncId} {fn : Func} {args : List AV} {H : List Blk} {Q : AV → List Blk → Prop} {mt : Tmp → Bool} {af : AF} (hm : E.P.follows .mixedOrders = true)
    (hf : E.P.funcs[f]? = some fn) (hc : cFn E.P mt fn = some af) {x y : AC} (hxy : af.body = .seq x y) (s1 : St) (h' : wpc E H x (thenQ (fun s' => Wk E H s' s1) (retQ E H af.results Q)) ⟨enterTm args af.ntmps, H⟩) (h'' : wpc E H y (retQ E H af.results Q) s1) : ACalls E f args H Q := by
  unfold ACalls
  intro c vs hH hr hg hl
  unfold cFn at hc
  split at hc
  · rename_i cd hb
    split at hc
    · rename_i b rs h1 h2
      split at hc
      · cases hc
      · rename_i hn
        cases hc
        refine Invokes.of_calls hf hb hn (calls_of_wp hf hb ?_)
        have hs : Sim E c ⟨enterTm args fn.ntmps, H⟩ c { tmps := vs.toArray ++ Array.replicate (fn.ntmps - vs.toArray.size) undef, defers := [] } := by
          refine ⟨hH, hr, ⟨?_, ?_⟩, Ext.refl c, hg, rfl⟩
          · simp [enterTm, hl.len]
          · intro j x v hx hv
            simp only [enterTm] at hx
            have hlen := hl.len
            by_cases hj : j < args.length
            · rw [List.getElem?_append_left hj] at hx
              have : (vs.toArray ++ Array.replicate (fn.ntmps - vs.toArray.size) undef)[j]? = vs[j]? := by
                rw [Array.getElem?_append_left (by simpa using (by omega : j < vs.length))]; simp
              rw [this] at hv
              exact hl.at_ j x v hx hv
            · rw [List.getElem?_append_right (by omega)] at hx
              rw [Array.getElem?_append_right (by simpa using (by omega : vs.length ≤ j))] at hv
              have hx' := List.mem_of_getElem? hx
              have hv' := Array.mem_of_getElem? hv
              have e1 := (List.mem_replicate.mp hx').2
              have e2 := (Array.mem_replicate.mp hv').2
              subst e1 e2
              exact .tup [] #[] rfl (fun j x v hx => by simp at hx)
        refine wp_mono (wpc_sound_seq hm ⟨hH, hr⟩ (h1.trans (congrArg some hxy)) _ _ s1 _ _ h' h'' hs) ?_
        have fin : ∀ (s : St) (d : Cx) (a : Act), retQ E H rs Q .ret s → Sim E c s d a → a.defers = [] ∧ ∃ v, (results fn a.tmps).run E.P d.w = .ok v d.w ∧ ∃ v', Ending.returned v = .returned v' ∧ ∃ d' r, d'.w = d.w ∧ HR d' ∧ Ext c d' ∧ VR d' r v' ∧ Q r d'.H := by
          intro s d a hq hs
          simp only [retQ] at hq
          split at hq
          · rename_i l hl
            obtain ⟨v, e1, e2⟩ := results_run h2 hs hl
            refine ⟨hs.defers, v, e1, v, rfl, ?_⟩
            rw [oneK_eq] at hq
            unfold RetG at hq
            obtain ⟨r', H', hw, hQ⟩ := hq
            unfold WkV at hw
            obtain ⟨d', g1, g2, g3, g4, g5⟩ := hw c d v ⟨hH, hr⟩ hs.ext hs.g hs.H hs.hr e2
            exact ⟨d', r', g1, g3, g4, g5, g2 ▸ hQ⟩
          · exact hq.elim
        intro e a' w' hq
        cases e with
        | normal =>
          obtain ⟨s, d, rfl, hq, hs⟩ := hq
          exact fin s d a' hq hs
        | ret =>
          obtain ⟨s, d, rfl, hq, hs⟩ := hq
          exact fin s d a' hq hs
        | exit i =>
          obtain ⟨s, d, rfl, hq, hs⟩ := hq
          exact hq.elim
        | goto l => obtain ⟨s, d, _, hq, _⟩ := hq; exact hq.elim
        | panic ch => exact hq.elim
        | outgrown => exact hq.elim
    · cases hc
  · cases hc

end
end Ink

namespace Ink
open Go
variable {E : Env} {n0 : List Blk}

theorem Pub.up {a b : AV} {n : Nat} (h : Pub [] n a b) {H : List Blk} : Pub H n a b := by
  induction h with
  | same a h => exact .same a h
  | nil z k => exact .nil z k
  | own i ver off len sz t cs l hl => simp [liveCells, getK] at hl
  | ptr i ver off t cs l hl => simp [liveCells, getK] at hl
  | agg l m hlen hsc hp ih => exact .agg l m hlen hsc ih
  | tup l m hlen hp ih => exact .tup l m hlen ih
  | iface t x y hp ih => exact .iface t x y ih
  | imm z l m hl hf hsz hsc hp ih => exact .imm z l m hl hf hsz hsc ih

theorem cut_all (c : Cx) : c.cut c.H.length = c := by simp [Cx.cut]

/-- a contract at arguments that say less -/
theorem PCalls.pub {f : FuncId} {args args' : List AV} {Q : AV → Prop} (h : PCalls E f args Q) (hp : ∀ n, PubL [] n args' args) : PCalls E f args' Q := by
  unfold PCalls at *
  intro H
  have h := h H
  unfold ACalls at *
  intro c vs hH hr hg hl
  refine h c vs hH hr hg ?_
  obtain ⟨g1, g2⟩ := (hp c.H.length).spec
  refine ⟨g1.symm.trans hl.len, fun j x v hx hv => ?_⟩
  have hj := getElem?_lt hx
  have hy := List.getElem?_eq_getElem (l := args') (i := j) (by omega)
  have := Pub.vr hr (Nat.le_refl _) ((g2 j _ x hy hx).up (H := c.H)) (hl.at_ j _ v hy hv)
  rwa [cut_all] at this

theorem Pub.aggL {H : List Blk} {n : Nat} {l m : List AV} (h : PubL H n l m) (hsc : ∀ x ∈ m, sc x = true) : Pub H n (.agg l) (.agg m) :=
  .agg l m h.spec.1 hsc h.spec.2

theorem Pub.immL {H : List Blk} {n z : Nat} {l m : List (List AV)} (hl : l.length = m.length) (h : PubL H n l.flatten m.flatten) (hsz : ∀ x ∈ m, x.length = z) (hsc : ∀ x ∈ m.flatten, sc x = true) : Pub H n (.imm z l) (.imm z m) :=
  .imm z l m hl h.spec.1 hsz hsc h.spec.2
end Ink
