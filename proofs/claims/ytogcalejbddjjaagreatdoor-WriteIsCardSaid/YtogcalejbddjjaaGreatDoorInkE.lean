import Derived.Test.YtogcalejbddjjaaGreatDoorInkD
import Derived.Test.YtogcalejbddjjaaGreatDoorInkC
import Derived.Lib.LaidTab
import Derived.Sort.Grow
import Derived.Deep.Draws
set_option linter.all false
namespace Ink
open Go Go.ChangeShapes Go.WideShapes Go.ChangeAt Go.RowKit

/-- a call of the kit's that leaves all that was as it was -/
theorem below_ctx {c : Cx} {w' : World} (hr : HR c) (hb : Below c.w.heap.size c.w w') : HR { c with w := w' } ∧ Ext c { c with w := w' } := by
  obtain ⟨h1, h2, h3, h4, h5⟩ := hb
  have he : Ext c { c with w := w' } := {
    n := Nat.le_refl _
    old := fun i v m v' m' h h' => by
      have h' : c.θ i = some (v', m') := h'
      rw [h] at h'; cases h'; exact ⟨Nat.le_refl _, fun _ => rfl⟩
    dead := fun i _ h => h
    os := h1
    tape := h2
    output := h3
    size := h4
    same := fun x hx _ => h5 x hx
    own := fun x hx => .inl hx }
  refine ⟨⟨?_, hr.inj, hr.hid, fun i x hi hx => Nat.lt_of_lt_of_le (hr.lt i x hi hx) h4⟩, he⟩
  intro i b hbk hl
  have hb' : c.H[i]? = some b := hbk
  have B := hr.blk i b hb' hl
  have hlt := fun x => hr.lt i x (live_of hb' hl)
  show BR { c with w := w' } (c.μ i) (c.hid i) b.k
  cases hk : b.k with
  | cells typ l =>
    rw [hk] at B
    obtain ⟨g1, g2, g3⟩ := B
    refine ⟨g1, g2, ?_⟩
    cases hm : c.μ i with
    | none => rw [hm] at g3; exact g3
    | some p =>
      rw [hm] at g3
      obtain ⟨cs, fr, k1, k2, k3, k4, k5⟩ := g3
      exact ⟨cs, fr, (h5 p.b (hlt p.b (.inl ⟨p, hm, rfl⟩))).trans k1, k2, k3, fun j x hx => let ⟨v, a, b⟩ := k4 j x hx; ⟨v, a, b.ext he⟩, k5⟩
  | bld T e bs =>
    rw [hk] at B
    cases hm : c.μ i with
    | none => rw [hm] at B; exact B
    | some p =>
      rw [hm] at B
      obtain ⟨g1, g2, q, v, fr, k1, kf, k2, k3⟩ := B
      refine ⟨g1, g2, q, v, fr, (h5 p.b (hlt p.b (.inl ⟨p, hm, rfl⟩))).trans k1, kf, k2, ?_⟩
      rcases k3 with k3 | ⟨x, base, cap, e1, e2, e3, e4⟩
      · exact .inl k3
      · exact .inr ⟨x, base, cap, e1, e2, e3, bytesAt_frame e4 (h5 x (hlt x (.inr (by rw [e1]; simp))))⟩
  | map kv =>
    rw [hk] at B
    obtain ⟨g1, g2, g3⟩ := B
    refine ⟨g1, g2, ?_⟩
    cases hm : c.μ i with
    | none => rw [hm] at g3; exact g3
    | some p =>
      rw [hm] at g3
      obtain ⟨es, clk, k1, k2, k3, k4⟩ := g3
      exact ⟨es, clk, (h5 p.b (hlt p.b (.inl ⟨p, hm, rfl⟩))).trans k1, k2, fun j x en hx hen => ⟨(k3 j x en hx hen).1.ext he, (k3 j x en hx hen).2.ext he⟩, k4⟩
  | frame l =>
    rw [hk] at B
    obtain ⟨g1, g2, g3⟩ := B
    exact ⟨g1, g2, fun p hp => (h5 p.1 (hlt p.1 (.inr (by rw [g2]; exact List.mem_map_of_mem hp)))).trans (g3 p hp)⟩

/-- a contract of the kit's, taken over -/
theorem PCalls.ofCalls {E : Env} {P : Program} (hP : E.P = P) {f : FuncId} {fn : Func} {b : Code} {args : List AV} {r : AV} (hf : P.funcs[f]? = some fn) (hb : fn.body = some b) (hn : (fn.name == "runtime.NumGoroutine") = false)
    (h : ∀ c vs, GOk E c → LR c args vs → ∃ v, (∀ d, VR d r v) ∧ Calls P f vs.toArray c.w fun e w' => e = .returned v ∧ Below c.w.heap.size c.w w') : PCalls E f args (· = r) := by
  unfold PCalls
  intro H
  unfold ACalls
  intro c vs hH hr hg hl
  obtain ⟨v, hv, hc⟩ := h c vs hg hl
  have hn' : ¬ fn.name = "runtime.NumGoroutine" := by simpa using hn
  refine .inl ⟨fun w => by simp [callFunc, hP, hf, hb, hn'], ?_⟩
  rw [hP]
  refine hc.mono fun e w' ⟨he, hbl⟩ => ⟨v, he, ?_⟩
  obtain ⟨h1, h2⟩ := below_ctx hr hbl
  exact ⟨_, r, rfl, h1, h2, hv _, rfl, hH⟩

theorem below_grow {w : World} {k : Nat} {os : Array Obj} : Below w.heap.size w (Sort.grow (w.drewN k) os) := by
  refine ⟨rfl, rfl, rfl, by simp [Sort.grow, World.drewN], fun x hx => ?_⟩
  simp only [Sort.grow, World.drewN]
  rw [Array.getElem?_append_left hx]

/-- the package-level variables of a world -/
def envW (P : Program) (W : World) : Env := { P, N := W.heap.size, G := fun x => W.heap[x]? }

theorem gokW (P : Program) (W : World) : GOk (envW P W) (cx0 W) := ⟨Nat.le_refl _, fun x _ => ⟨rfl, cx0_O W x⟩⟩

theorem tabW {P : Program} {W : World} {n : String} {k : IntKind} {zs : List Int} (h : Lib.TabIs P W n k zs) {c : Cx} (hg : GOk (envW P W) c) : Lib.TabIs P c.w n k zs := by
  unfold Lib.TabIs World.var? at *
  cases hn : P.globalNamed n with
  | none => rw [hn] at h; cases h
  | some g =>
    rw [hn] at h
    have h : (match W.heap[g]? with | some (.cells cs _ _) => some cs | _ => none) = some (zs.map fun z => Value.int k z).toArray := h
    show (match c.w.heap[g]? with | some (.cells cs _ _) => some cs | _ => none) = some (zs.map fun z => Value.int k z).toArray
    have hlt : g < W.heap.size := by
      rcases Nat.lt_or_ge g W.heap.size with h' | h'
      · exact h'
      · rw [Array.getElem?_eq_none h'] at h; cases h
    have := (hg.at_ g hlt).1
    rw [show (envW P W).G g = W.heap[g]? from rfl] at this
    rw [this]
    exact h

theorem PCalls.callsW {P : Program} {f : FuncId} {fn : Func} {b : Code} {args : List AV} {vs : List Value} {W : World} (hf : P.funcs[f]? = some fn) (hb : fn.body = some b) (hn : (fn.name == "runtime.NumGoroutine") = false)
    (h : PCalls (envW P W) f args (· = .bool true)) (hl : LR (cx0 W) args vs) :
    Calls P f vs.toArray W fun e w' => e = .returned (.bool true) ∧ Below W.heap.size W w' := by
  unfold PCalls at h
  have h1 := h []
  unfold ACalls at h1
  have h2 := h1 (cx0 W) vs rfl (hr0 W) (gokW P W) hl
  have fin : ∀ v w', (∃ d r, d.w = w' ∧ HR d ∧ Ext (cx0 W) d ∧ VR d r v ∧ (r = .bool true) ∧ d.H = []) → v = .bool true ∧ Below W.heap.size W w' := by
    rintro v w' ⟨d, r, rfl, _, e, hv, rfl, _⟩
    refine ⟨?_, e.os, e.tape, e.output, e.size, fun k hk => e.same k hk (cx0_O W k)⟩
    cases hv; rfl
  rcases h2 with ⟨_, h3⟩ | ⟨v, w', h3, _⟩
  · exact h3.mono fun e w' ⟨v, he, hv⟩ => by
      obtain ⟨rfl, hb⟩ := fin v w' hv
      exact ⟨he, hb⟩
  · exfalso
    have hn' : ¬ fn.name = "runtime.NumGoroutine" := by simpa using hn
    have : (callFunc f vs.toArray).run P W = .ok (.enter f vs.toArray) W := by simp [callFunc, hf, hb, hn']
    rw [show (cx0 W).w = W from rfl, show (envW P W).P = P from rfl] at h3
    rw [this] at h3
    cases h3
end Ink

namespace Ink
open Go
section
variable {E : Env} {n0 : List Blk} {c0 : Cx}

open Classical in
theorem wpc_sound_seq (hm : E.P.follows .mixedOrders = true) {mt : Tmp → Bool} (hn0 : (c0.H = n0 ∧ HR c0)) {cd : Code} {ac bc : AC} (h : cCode E.P mt cd = some (.seq ac bc)) (Q : Ex → St → Prop) (s s1 : St) (c : Cx) (a : Act)
    (h1 : wpc E n0 ac (thenQ (fun s' => Wk E n0 s' s1) Q) s) (h2 : wpc E n0 bc Q s1) (hs : Sim E c0 s c a) : cd.wp E.P (PostR E c0 Q) a c.w := by
  cases cd <;> simp only [cCode] at h <;> first | (cases h; done) | skip
  case seq x y =>
    split at h
    · rename_i ax ay hx hy
      cases h
      refine wp_seq (wp_mono (wpc_sound hm hn0 x ac hx _ s c a h1 hs) (fun e a' w' hq => ?_))
      cases e with
      | normal =>
        obtain ⟨s', c', rfl, hq, hs'⟩ := hq
        have hq : Wk E n0 s' s1 := hq
        unfold Wk at hq
        obtain ⟨c'', hw, hs''⟩ := hq c0 c' a' hn0 hs'
        rw [← hw]
        exact wpc_sound hm hn0 y bc hy Q s1 c'' a' h2 hs''
      | exit i => exact hq
      | ret => exact hq
      | goto l => exact hq
      | panic ch => exact hq.elim
      | outgrown => exact hq.elim
    · cases h
  all_goals
    first
    | (split at h <;> first | (cases h; done) | (split at h <;> first | (cases h; done) | (split at h <;> cases h; done)))

/-- A function is entered; behind its first part the state is known otherwise. -/
theorem ACalls.enterW {E : Env} {f : FuncId} {fn : Func} {args : List AV} {H : List Blk} {Q : AV → List Blk → Prop} {mt : Tmp → Bool} {af : AF} (hm : E.P.follows .mixedOrders = true)
    (hf : E.P.funcs[f]? = some fn) (hc : cFn E.P mt fn = some af) {x y : AC} (hxy : af.body = .seq x y) (s1 : St) (h' : wpc E H x (thenQ (fun s' => Wk E H s' s1) (retQ E H af.results Q)) ⟨enterTm args af.ntmps, H⟩) (h'' : wpc E H y (retQ E H af.results Q) s1) : ACalls E f args H Q := by
  unfold ACalls
  intro c vs hH hr hg hl
  unfold cFn at hc
  split at hc
  · rename_i cd hb
    split at hc
    · rename_i b rs h1 h2
      split at hc
      · cases hc
      · rename_i hn
        cases hc
        refine Invokes.of_calls hf hb hn (calls_of_wp hf hb ?_)
        have hs : Sim E c ⟨enterTm args fn.ntmps, H⟩ c { tmps := vs.toArray ++ Array.replicate (fn.ntmps - vs.toArray.size) undef, defers := [] } := by
          refine ⟨hH, hr, ⟨?_, ?_⟩, Ext.refl c, hg, rfl⟩
          · simp [enterTm, hl.len]
          · intro j x v hx hv
            simp only [enterTm] at hx
            have hlen := hl.len
            by_cases hj : j < args.length
            · rw [List.getElem?_append_left hj] at hx
              have : (vs.toArray ++ Array.replicate (fn.ntmps - vs.toArray.size) undef)[j]? = vs[j]? := by
                rw [Array.getElem?_append_left (by simpa using (by omega : j < vs.length))]; simp
              rw [this] at hv
              exact hl.at_ j x v hx hv
            · rw [List.getElem?_append_right (by omega)] at hx
              rw [Array.getElem?_append_right (by simpa using (by omega : vs.length ≤ j))] at hv
              have hx' := List.mem_of_getElem? hx
              have hv' := Array.mem_of_getElem? hv
              have e1 := (List.mem_replicate.mp hx').2
              have e2 := (Array.mem_replicate.mp hv').2
              subst e1 e2
              exact .tup [] #[] rfl (fun j x v hx => by simp at hx)
        refine wp_mono (wpc_sound_seq hm ⟨hH, hr⟩ (h1.trans (congrArg some hxy)) _ _ s1 _ _ h' h'' hs) ?_
        have fin : ∀ (s : St) (d : Cx) (a : Act), retQ E H rs Q .ret s → Sim E c s d a → a.defers = [] ∧ ∃ v, (results fn a.tmps).run E.P d.w = .ok v d.w ∧ ∃ v', Ending.returned v = .returned v' ∧ ∃ d' r, d'.w = d.w ∧ HR d' ∧ Ext c d' ∧ VR d' r v' ∧ Q r d'.H := by
          intro s d a hq hs
          simp only [retQ] at hq
          split at hq
          · rename_i l hl
            obtain ⟨v, e1, e2⟩ := results_run h2 hs hl
            refine ⟨hs.defers, v, e1, v, rfl, ?_⟩
            rw [oneK_eq] at hq
            unfold RetG at hq
            obtain ⟨r', H', hw, hQ⟩ := hq
            unfold WkV at hw
            obtain ⟨d', g1, g2, g3, g4, g5⟩ := hw c d v ⟨hH, hr⟩ hs.ext hs.g hs.H hs.hr e2
            exact ⟨d', r', g1, g3, g4, g5, g2 ▸ hQ⟩
          · exact hq.elim
        intro e a' w' hq
        cases e with
        | normal =>
          obtain ⟨s, d, rfl, hq, hs⟩ := hq
          exact fin s d a' hq hs
        | ret =>
          obtain ⟨s, d, rfl, hq, hs⟩ := hq
          exact fin s d a' hq hs
        | exit i =>
          obtain ⟨s, d, rfl, hq, hs⟩ := hq
          exact hq.elim
        | goto l => obtain ⟨s, d, _, hq, _⟩ := hq; exact hq.elim
        | panic ch => exact hq.elim
        | outgrown => exact hq.elim
    · cases hc
  · cases hc

end
end Ink

namespace Ink
open Go
variable {E : Env} {n0 : List Blk}

theorem Pub.up {a b : AV} {n : Nat} (h : Pub [] n a b) {H : List Blk} : Pub H n a b := by
  induction h with
  | same a h => exact .same a h
  | nil z k => exact .nil z k
  | own i ver off len sz t cs l hl => simp [liveCells, getK] at hl
  | ptr i ver off t cs l hl => simp [liveCells, getK] at hl
  | agg l m hlen hsc hp ih => exact .agg l m hlen hsc ih
  | tup l m hlen hp ih => exact .tup l m hlen ih
  | iface t x y hp ih => exact .iface t x y ih
  | imm z l m hl hf hsz hsc hp ih => exact .imm z l m hl hf hsz hsc ih

theorem cut_all (c : Cx) : c.cut c.H.length = c := by simp [Cx.cut]

/-- a contract at arguments that say less -/
theorem PCalls.pub {f : FuncId} {args args' : List AV} {Q : AV → Prop} (h : PCalls E f args Q) (hp : ∀ n, PubL [] n args' args) : PCalls E f args' Q := by
  unfold PCalls at *
  intro H
  have h := h H
  unfold ACalls at *
  intro c vs hH hr hg hl
  refine h c vs hH hr hg ?_
  obtain ⟨g1, g2⟩ := (hp c.H.length).spec
  refine ⟨g1.symm.trans hl.len, fun j x v hx hv => ?_⟩
  have hj := getElem?_lt hx
  have hy := List.getElem?_eq_getElem (l := args') (i := j) (by omega)
  have := Pub.vr hr (Nat.le_refl _) ((g2 j _ x hy hx).up (H := c.H)) (hl.at_ j _ v hy hv)
  rwa [cut_all] at this

theorem Pub.aggL {H : List Blk} {n : Nat} {l m : List AV} (h : PubL H n l m) (hsc : ∀ x ∈ m, sc x = true) : Pub H n (.agg l) (.agg m) :=
  .agg l m h.spec.1 hsc h.spec.2

theorem Pub.immL {H : List Blk} {n z : Nat} {l m : List (List AV)} (hl : l.length = m.length) (h : PubL H n l.flatten m.flatten) (hsz : ∀ x ∈ m, x.length = z) (hsc : ∀ x ∈ m.flatten, sc x = true) : Pub H n (.imm z l) (.imm z m) :=
  .imm z l m hl h.spec.1 hsz hsc h.spec.2
end Ink
