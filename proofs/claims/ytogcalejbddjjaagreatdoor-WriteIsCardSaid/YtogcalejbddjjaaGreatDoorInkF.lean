import Derived.Test.YtogcalejbddjjaaGreatDoorInkE
import Derived.Lib.Overlaps
import Derived.Laws.Externs
set_option linter.all false
namespace Ink
open Go
variable {E : Env} {n0 : List Blk}

/-- the capacity of a slice of one's own, known from now on -/
theorem ACalls.capI {f : FuncId} {i ver off len sz : Nat} {rest : List AV} {H : List Blk} {Q : AV → List Blk → Prop} {k : BK} (hk : getK H i = some ⟨ver, true, k⟩)
    (h : ∀ cap, len ≤ cap → cap ≤ 9223372036854775807 → ACalls E f (.ownC i ver off len cap sz :: rest) H Q) : ACalls E f (.own i ver off len sz :: rest) H Q := by
  rw [getK_eq] at hk
  unfold ACalls at *
  intro c vs hH hr hg hl
  have hc : c.H[i]? = some ⟨ver, true, k⟩ := by rw [hH]; exact hk
  match vs, hl.len with
  | v :: vs, hlen =>
    have hv := hl.at_ 0 _ v rfl rfl
    have put : ∀ cap a, v = .slice a len cap → LR c (.ownC i ver off len cap sz :: rest) (v :: vs) := fun cap a hva => ⟨by simpa using hlen, fun j x u hx hu => by
      cases j with
      | zero => cases hx; cases hu; exact .ownC _ _ _ _ _ _ _ hv ⟨a, hva⟩
      | succ j => exact hl.at_ (j + 1) x u hx hu⟩
    rcases own_at hv hc with ⟨hμ, rfl, rfl, rfl⟩ | ⟨l, ad, cap, hμ, hva, hcap, hmx, _, _⟩
    · exact h 0 (Nat.le_refl _) (by omega) c _ hH hr hg (put 0 none rfl)
    · exact h cap hcap hmx c _ hH hr hg (put cap _ hva)

/-- a result, its capacity forgotten -/
theorem RetG.c {r : AV} {H : List Blk} {Q : AV → List Blk → Prop} (h : Q (unC r) H) : RetG E n0 r H Q := by
  unfold RetG
  refine ⟨unC r, H, ?_, h⟩
  unfold WkV
  intro c0 c v _ he hg hH hr hv
  exact ⟨c, rfl, hH, hr, he, hv.unC⟩

theorem run_overlaps2 {P : Program} (w : World) (tS tR e : TypeId) (ht : P.underlying tS = some (.slice e)) (size : Nat) (hz : ∀ w, (Go.sizeOf e).run P w = .ok size w)
    (a b : Addr) (la ca lb cb : Nat) (hne : a.block ≠ b.block) (tA tB : TypeId) (kA kB : Nat)
    (hsa : w.shape? a.block = some (tA, kA)) (hsb : w.shape? b.block = some (tB, kB)) (hkA : kA ≠ 0)
    (hfb : w.frozen? b = false) (hfe : w.frozen? { block := b.block, off := kB } = false) :
    (Extern.SlicesOverlaps.overlaps #[tS, tS] #[tR] #[.slice (some a) la ca, .slice (some b) lb cb]).run P w = .ok (.bool false) w := by
  have hnb : (a.block != b.block) = true := by simpa using hne
  have hnb' : (a.block == b.block) = false := by simpa using hne
  change Sem.run P (α := Value) (do
    let some t := (#[tS, tS] : Array TypeId)[0]? | stuck "slices.overlaps: no parameter types"
    let .slice elem ← underlying t | stuck "slices.overlaps: slice type expected"
    let size ← sizeOf elem
    match (some a : Option Addr), (some b : Option Addr) with
    | some a, some b =>
      if la = 0 ∨ lb = 0 ∨ size = 0 then pure (Value.bool false)
      else if a.block != b.block && (← frozen a) && (← frozen b) then unsupported .addressObserved
      else do
        if a.block != b.block then do
          noView a; noView b
          if ← mayBeOne a b then return Value.bool ((← choose (.extern "sameAddr.stringBytes" 2)) == 1)
        pure (Value.bool (a.block == b.block && a.off < b.off + lb * size && b.off < a.off + la * size))
    | _, _ => pure (Value.bool false)) w = _
  by_cases h0 : la = 0 ∨ lb = 0 ∨ size = 0
  · simp [run_underlying ht, hz, h0]
  · cases kA with
    | zero => exact absurd rfl hkA
    | succ kA =>
      simp [run_underlying ht, hz, h0, hnb, hnb', frozen, noView, viewAt, mayBeOne, stringish, shape, Sem.run, hsa, hsb, hfb, hfe]

theorem ACalls.overlaps {f : FuncId} {fn : Func} {tS tR e : TypeId} (hf : E.P.funcs[f]? = some fn) (hname : (fn.name == "runtime.NumGoroutine") = false) (hb : fn.body.isNone = true) (hn : Extern.findNext fn = none)
    (he : Extern.find fn = some (Extern.SlicesOverlaps.overlaps #[tS, tS] #[tR])) (ht : E.P.underlying tS = some (.slice e)) {size : Nat} (hz : szT E.P e = some size)
    {i vi oi li zi j vj oj lj zj : Nat} {H : List Blk} {ti tj : TypeId} {ci cj : List AV} (hi : liveCells H i vi = some (ti, ci)) (hj : liveCells H j vj = some (tj, cj)) (hij : i ≠ j) (hti : mkB ti = 1) (hcj : 0 < cj.length) :
    ACalls E f [.own i vi oi li zi, .own j vj oj lj zj] H fun r H' => r = .bool false ∧ H' = H := by
  unfold ACalls
  intro c vs hH hr hg hl
  have hbi := liveCells_some hi
  have hbj := liveCells_some hj
  rw [← hH] at hbi hbj
  have hzr : ∀ w, (Go.sizeOf e).run E.P w = .ok size w := fun w => (szT_spec hz w).choose_spec.2.2
  match vs, hl.len with
  | [u, v], _ =>
    have hu := hl.at_ 0 _ u rfl rfl
    have hv := hl.at_ 1 _ v rfl rfl
    have fin : (Extern.SlicesOverlaps.overlaps #[tS, tS] #[tR] #[u, v]).run E.P c.w = .ok (.bool false) c.w →
        Invokes E.P f [u, v].toArray c.w fun v w' => ∃ d r, d.w = w' ∧ HR d ∧ Ext c d ∧ VR d r v ∧ r = .bool false ∧ d.H = H := by
      intro h
      refine .inr ⟨.bool false, c.w, ?_, c, .bool false, rfl, hr, .refl c, .bool false, rfl, hH⟩
      rw [run_callFunc_extern hf hname hb hn he]
      show Result.andThen (Sem.run _ (Extern.SlicesOverlaps.overlaps #[tS, tS] #[tR] #[u, v]) _) _ = _
      rw [h]; rfl
    have early : ∀ a ca b cb, u = .slice a li ca → v = .slice b lj cb → (a = none ∨ b = none ∨ li = 0 ∨ lj = 0) → (Extern.SlicesOverlaps.overlaps #[tS, tS] #[tR] #[u, v]).run E.P c.w = .ok (.bool false) c.w := by
      rintro a ca b cb rfl rfl h
      have hu0 := run_underlying ht
      change Sem.run E.P (α := Value) (do
        let some t := (#[tS, tS] : Array TypeId)[0]? | stuck "slices.overlaps: no parameter types"
        let .slice elem ← underlying t | stuck "slices.overlaps: slice type expected"
        let size ← sizeOf elem
        match a, b with
        | some a, some b =>
          if li = 0 ∨ lj = 0 ∨ size = 0 then pure (Value.bool false)
          else if a.block != b.block && (← frozen a) && (← frozen b) then unsupported .addressObserved
          else do
            if a.block != b.block then do
              noView a; noView b
              if ← mayBeOne a b then return Value.bool ((← choose (.extern "sameAddr.stringBytes" 2)) == 1)
            pure (Value.bool (a.block == b.block && a.off < b.off + lj * size && b.off < a.off + li * size))
        | _, _ => pure (Value.bool false)) c.w = _
      cases a with
      | none => simp [hu0, hzr]
      | some a =>
        cases b with
        | none => simp [hu0, hzr]
        | some b =>
          have h' : li = 0 ∨ lj = 0 ∨ size = 0 := by
            rcases h with h | h | h | h
            · cases h
            · cases h
            · exact .inl h
            · exact .inr (.inl h)
          simp [hu0, hzr, h']
    refine fin ?_
    rcases own_at hu hbi with ⟨hμi, hue, hl0, _⟩ | ⟨p, ad, ca, hμi, hue, hcai, _, hadi, hfi⟩
    · rcases own_at hv hbj with ⟨_, hve, hl1, _⟩ | ⟨_, bd, cb, _, hve, _⟩
      · exact early none 0 none 0 (by rw [hl0]; exact hue) (by rw [hl1]; exact hve) (.inl rfl)
      · exact early none 0 _ cb (by rw [hl0]; exact hue) hve (.inl rfl)
    · rcases own_at hv hbj with ⟨_, hve, hl1, _⟩ | ⟨q, bd, cb, hμj, hve, hcbj, _, hadj, hfj⟩
      · exact early _ ca none 0 hue (by rw [hl1]; exact hve) (.inr (.inl rfl))
      · by_cases h0 : li = 0 ∨ lj = 0
        · exact early _ ca _ cb hue hve (h0.elim (fun h => .inr (.inr (.inl h))) (fun h => .inr (.inr (.inr h))))
        · have h1 := hadi (by omega)
          have h2 := hadj (by omega)
          subst h1 h2
          obtain ⟨vs1, fr1, a1, a2, a3, a4, a5, a6⟩ := blk_cells hr hbi hμi
          obtain ⟨vs2, fr2, b1, b2, b3, b4, b5, b6⟩ := blk_cells hr hbj hμj
          rw [hti] at a6
          have hne : p.b ≠ q.b := fun h => hij (hr.inj i j p.b (live_of hbi rfl) (live_of hbj rfl) (.inl ⟨p, hμi, rfl⟩) (.inl ⟨q, hμj, h.symm⟩))
          rw [hue, hve]
          have f1 := a6 (p.base + oi) (by omega) (by omega)
          have f2 := a6 p.size (by omega) (by omega)
          exact Lib.run_overlaps_apart c.w tS tR e ht size hzr ⟨p.b, p.base + oi, none⟩ ⟨q.b, q.base + oj, none⟩ li ca lj cb hne ti tj vs1.size vs2.size
            (by simp [World.shape?, a1]) (by simp [World.shape?, b1]) (by omega) (by simp [World.frozen?, a1]; omega) (by simp [World.frozen?, a1]; omega)

/-- the same, where the first is read from alone -/
theorem ACalls.overlapsI {f : FuncId} {fn : Func} {tS tR e : TypeId} (hf : E.P.funcs[f]? = some fn) (hname : (fn.name == "runtime.NumGoroutine") = false) (hb : fn.body.isNone = true) (hn : Extern.findNext fn = none)
    (he : Extern.find fn = some (Extern.SlicesOverlaps.overlaps #[tS, tS] #[tR])) (ht : E.P.underlying tS = some (.slice e)) {size : Nat} (hz : szT E.P e = some size)
    {zi j vj oj lj zj : Nat} {H : List Blk} {tj : TypeId} {cj : List AV} {x : AV} {xs : List AV} {l : List (List AV)} (hj : liveCells H j vj = some (tj, cj)) (htj : mkB tj = 1) (hzj : 0 < zj) :
    ACalls E f [.imm zi ((x :: xs) :: l), .own j vj oj lj zj] H fun r H' => r = .bool false ∧ H' = H := by
  unfold ACalls
  intro c vs hH hr hg hl
  have hbj := liveCells_some hj
  rw [← hH] at hbj
  have hzr : ∀ w, (Go.sizeOf e).run E.P w = .ok size w := fun w => (szT_spec hz w).choose_spec.2.2
  match vs, hl.len with
  | [u, v], _ =>
    have hu := hl.at_ 0 _ u rfl rfl
    have hv := hl.at_ 1 _ v rfl rfl
    have fin : (Extern.SlicesOverlaps.overlaps #[tS, tS] #[tR] #[u, v]).run E.P c.w = .ok (.bool false) c.w →
        Invokes E.P f [u, v].toArray c.w fun v w' => ∃ d r, d.w = w' ∧ HR d ∧ Ext c d ∧ VR d r v ∧ r = .bool false ∧ d.H = H := by
      intro h
      refine .inr ⟨.bool false, c.w, ?_, c, .bool false, rfl, hr, .refl c, .bool false, rfl, hH⟩
      rw [run_callFunc_extern hf hname hb hn he]
      show Result.andThen (Sem.run _ (Extern.SlicesOverlaps.overlaps #[tS, tS] #[tR] #[u, v]) _) _ = _
      rw [h]; rfl
    refine fin ?_
    have hu0 := run_underlying ht
    cases hu with
    | imm _ _ ad ca fc hcap hsz hsc hbb hw hs hcell hrel =>
      have hc0 := hcell 0 (by simp)
      obtain ⟨tA, kA, hsa, hkA⟩ : ∃ tA kA, c.w.shape? ad.block = some (tA, kA) ∧ kA ≠ 0 := by
        unfold World.cell? at hc0
        unfold World.shape?
        split at hc0
        · rename_i cs elem fr hcs
          rw [hcs]
          refine ⟨elem, cs.size, rfl, ?_⟩
          simp at hc0
          have := (Array.getElem?_eq_some_iff.mp hc0).1
          omega
        · cases hc0
      rcases own_at hv hbj with ⟨_, rfl, hl1, _⟩ | ⟨q, bd, cb, hμj, rfl, hcbj, _, hadj, hfj⟩
      · show Sem.run E.P (α := Value) (do
          let some t := (#[tS, tS] : Array TypeId)[0]? | stuck "slices.overlaps: no parameter types"
          let .slice elem ← underlying t | stuck "slices.overlaps: slice type expected"
          let size ← sizeOf elem
          pure (Value.bool false)) c.w = _
        simp [hu0, hzr]
      · by_cases h0 : lj = 0
        · show Sem.run E.P (α := Value) (do
            let some t := (#[tS, tS] : Array TypeId)[0]? | stuck "slices.overlaps: no parameter types"
            let .slice elem ← underlying t | stuck "slices.overlaps: slice type expected"
            let size ← sizeOf elem
            if (((x :: xs) :: l).length = 0 ∨ lj = 0 ∨ size = 0) then pure (Value.bool false)
            else if ad.block != bd.block && (← frozen ad) && (← frozen bd) then unsupported .addressObserved
            else do
              if ad.block != bd.block then do
                noView ad; noView bd
                if ← mayBeOne ad bd then return Value.bool ((← choose (.extern "sameAddr.stringBytes" 2)) == 1)
              pure (Value.bool (ad.block == bd.block && ad.off < bd.off + lj * size && bd.off < ad.off + ((x :: xs) :: l).length * size))) c.w = _
          simp [hu0, hzr, h0]
        · have h2 := hadj (by omega)
          subst h2
          obtain ⟨vs2, fr2, b1, b2, b3, b4, b5, b6⟩ := blk_cells hr hbj hμj
          rw [htj] at b6
          have hne : ad.block ≠ q.b := fun h => hbb ⟨j, live_of hbj rfl, .inl ⟨q, hμj, h.symm⟩⟩
          have f1 := b6 (q.base + oj) (by omega) (by
            have := Nat.mul_le_mul_right zj hcbj
            have := Nat.le_mul_of_pos_right lj hzj
            omega)
          have f2 := b6 q.size (by omega) (by omega)
          exact run_overlaps2 c.w tS tR e ht size hzr ad ⟨q.b, q.base + oj, none⟩ _ ca lj cb hne tA tj kA vs2.size hsa (by simp [World.shape?, b1]) hkA (by simp [World.frozen?, b1]; omega) (by simp [World.frozen?, b1]; omega)
end Ink

namespace Ink
open Go
variable {E : Env} {n0 : List Blk}

/-- some cells are loaded -/
theorem load_n {tm : List AV} {H : List Blk} {a : AOpd} {i ver off n : Nat} {t : TypeId} {cs l : List AV} (h1 : a.ev tm = .ptr i ver off) (h2 : liveCells H i ver = some (t, cs)) (h3 : (cs.drop off).take n = l) (h4 : off + n ≤ cs.length) :
    opRes tm H (.load (some n) a) = .ok (.agg l) H := by
  have e : Nat.ble (off + n) (lenK cs) = true := by rw [lenK_eq]; simpa using h4
  simp only [opRes, h1, h2, loadRes, e]
  rw [takeK_eq, dropK_eq, h3]

/-- some cells are stored -/
theorem store_n {tm : List AV} {H : List Blk} {a x : AOpd} {i ver off n : Nat} {t : TypeId} {cs l cs' : List AV} (h1 : a.ev tm = .ptr i ver off) (h2 : liveCells H i ver = some (t, cs)) (hx : cellsOf? (x.ev tm) = some l) (hl : l.length = n) (h3 : off + n ≤ cs.length)
    (h4 : cs.take off ++ (l ++ cs.drop (off + n)) = cs') :
    opRes tm H (.store n a x) = .ok .top (setK H i ⟨ver, true, .cells t cs'⟩ id) := by
  have e : (Nat.beq (lenK l) n && Nat.ble (off + n) (lenK cs)) = true := by rw [lenK_eq, lenK_eq]; simp; exact ⟨hl, h3⟩
  simp only [opRes, h1, h2, hx, e]
  simp only [appK_eq, takeK_eq, dropK_eq, setK_eq, id, h4]

/-- a contract at arguments of which less is known -/
theorem PCalls.split {f : FuncId} {args : List AV} {Q : AV → Prop} (S : List AV → Prop) (hS : ∀ c vs, LR c args vs → ∃ args', S args' ∧ LR c args' vs) (h : ∀ args', S args' → PCalls E f args' Q) : PCalls E f args Q := by
  unfold PCalls at *
  intro H
  unfold ACalls at *
  intro c vs hH hr hg hl
  obtain ⟨args', h1, h2⟩ := hS c vs hl
  exact h args' h1 H c vs hH hr hg h2

/-- an empty slice is nil, or not -/
theorem VR.imm0 {c : Cx} {z : Nat} {v : Value} (h : VR c (.imm z []) v) : ∃ a cap, v = .slice a 0 cap ∧ VR c (.lit (.slice a 0 cap)) v := by
  cases h with
  | immE _ a cap => exact ⟨a, cap, rfl, .lit _⟩
  | imm _ _ a cap => exact ⟨some a, cap, rfl, .lit _⟩

theorem LR.head {c : Cx} {x : AV} {xs : List AV} {v : Value} {vs : List Value} (h : LR c (x :: xs) (v :: vs)) : VR c x v ∧ LR c xs vs :=
  ⟨h.at_ 0 _ _ rfl rfl, ⟨by have := h.len; simpa using this, fun j y u hy hu => h.at_ (j + 1) y u hy hu⟩⟩

theorem LR.cons {c : Cx} {x : AV} {xs : List AV} {v : Value} {vs : List Value} (h1 : VR c x v) (h2 : LR c xs vs) : LR c (x :: xs) (v :: vs) :=
  ⟨by have := h2.len; simpa using this, fun j y u hy hu => by
    cases j with
    | zero => cases hy; cases hu; exact h1
    | succ j => exact h2.at_ j y u hy hu⟩

theorem LR.nil (c : Cx) : LR c [] [] := ⟨rfl, fun j x v h => by simp at h⟩

theorem VR.aggI {c : Cx} {l : List AV} {v : Value} (h : VR c (.agg l) v) : ∃ vs : List Value, v = .agg vs.toArray ∧ LR c l vs ∧ ∀ x ∈ l, sc x = true := by
  cases h with
  | agg _ vs hsc hl h => exact ⟨vs.toList, by simp, ⟨by simpa using hl, fun j x v hx hv => h j x v hx (by rwa [Array.getElem?_toList] at hv)⟩, hsc⟩

theorem LR.agg {c : Cx} {l : List AV} {vs : List Value} (h : LR c l vs) (hsc : ∀ x ∈ l, sc x = true) : VR c (.agg l) (.agg vs.toArray) :=
  .agg _ _ hsc (by simpa using h.len) fun j x v hx hv => h.at_ j x v hx (by simpa using hv)
end Ink

namespace Ink
open Go

/-- a value, its blocks numbered anew: sel tells each new block's old number (none: a new one, of no memory) -/
inductive Gc (H H' : List Blk) (sel : List (Option Nat)) : AV → AV → Prop where
  | same (a : AV) (h : hb 0 a = true) : Gc H H' sel a a
  | top (a : AV) : Gc H H' sel a .top
  | nil (z k : Nat) : Gc H H' sel (.lit (.slice none 0 k)) (.imm z [])
  | nilOwn (j v' sz : Nat) (t : TypeId) (hs : sel[j]? = some none) (hj : H'[j]? = some ⟨v', true, .cells t []⟩) : Gc H H' sel (.lit (.slice none 0 0)) (.own j v' 0 0 sz)
  | ptr (j i v v' off : Nat) (k k' : BK) (hs : sel[j]? = some (some i)) (hi : H[i]? = some ⟨v, true, k⟩) (hj : H'[j]? = some ⟨v', true, k'⟩) : Gc H H' sel (.ptr i v off) (.ptr j v' off)
  | own (j i v v' off len sz : Nat) (k k' : BK) (hs : sel[j]? = some (some i)) (hi : H[i]? = some ⟨v, true, k⟩) (hj : H'[j]? = some ⟨v', true, k'⟩) : Gc H H' sel (.own i v off len sz) (.own j v' off len sz)
  | ownC (i v off len cap sz : Nat) (b : AV) (h : Gc H H' sel (.own i v off len sz) b) : Gc H H' sel (.ownC i v off len cap sz) b
  | map (j i v v' : Nat) (k k' : BK) (hs : sel[j]? = some (some i)) (hi : H[i]? = some ⟨v, true, k⟩) (hj : H'[j]? = some ⟨v', true, k'⟩) : Gc H H' sel (.map i v) (.map j v')
  | pubOwn (i ver off len sz : Nat) (t : TypeId) (cs : List AV) (l : List (List AV)) (hl : liveCells H i ver = some (t, cs)) (hi : some i ∉ sel) (hlen : l.length = len) (hsz : ∀ x ∈ l, x.length = sz) (hsc : ∀ x ∈ l.flatten, sc x = true)
      (hle : off + l.flatten.length ≤ cs.length) (hp : ∀ (j : Nat) (x y : AV), l.flatten[j]? = some x → cs[off + j]? = some y → Gc H H' sel y x) : Gc H H' sel (.own i ver off len sz) (.imm sz l)
  | pubPtr (i ver off : Nat) (t : TypeId) (cs l : List AV) (hl : liveCells H i ver = some (t, cs)) (hi : some i ∉ sel) (hsc : ∀ x ∈ l, sc x = true)
      (hle : off + l.length ≤ cs.length) (hp : ∀ (j : Nat) (x y : AV), l[j]? = some x → cs[off + j]? = some y → Gc H H' sel y x) : Gc H H' sel (.ptr i ver off) (.pimm l)
  | agg (l m : List AV) (hlen : l.length = m.length) (hsc : ∀ x ∈ m, sc x = true) (hp : ∀ (j : Nat) (x y : AV), l[j]? = some x → m[j]? = some y → Gc H H' sel x y) : Gc H H' sel (.agg l) (.agg m)
  | tup (l m : List AV) (hlen : l.length = m.length) (hp : ∀ (j : Nat) (x y : AV), l[j]? = some x → m[j]? = some y → Gc H H' sel x y) : Gc H H' sel (.tup l) (.tup m)
  | iface (t : TypeId) (x y : AV) (hp : Gc H H' sel x y) : Gc H H' sel (.iface t x) (.iface t y)
  | fn (f : Fn) (a b a' b' : List AV) (hl : a.length = a'.length) (hl' : b.length = b'.length) (ha : ∀ (j : Nat) (x y : AV), a[j]? = some x → a'[j]? = some y → Gc H H' sel x y)
      (hb : ∀ (j : Nat) (x y : AV), b[j]? = some x → b'[j]? = some y → Gc H H' sel x y) : Gc H H' sel (.fn f a b) (.fn f a' b')

/-- pointwise -/
def GcL (H H' : List Blk) (sel : List (Option Nat)) : List AV → List AV → Prop
  | [], [] => True
  | x :: xs, y :: ys => Gc H H' sel x y ∧ GcL H H' sel xs ys
  | _, _ => False

theorem GcL.spec {H H' : List Blk} {sel : List (Option Nat)} : ∀ {l m : List AV}, GcL H H' sel l m → l.length = m.length ∧ ∀ (j : Nat) (x y : AV), l[j]? = some x → m[j]? = some y → Gc H H' sel x y
  | [], [], _ => ⟨rfl, fun j x y h => by simp at h⟩
  | x :: xs, y :: ys, h => by
    obtain ⟨h1, h2⟩ := h
    obtain ⟨i1, i2⟩ := GcL.spec h2
    refine ⟨by simp [i1], fun j u v hu hv => ?_⟩
    cases j with
    | zero => simp at hu hv; subst hu hv; exact h1
    | succ j => simp at hu hv; exact i2 j u v hu hv
  | [], _ :: _, h => h.elim
  | _ :: _, [], h => h.elim

theorem GcL.same {H H' : List Blk} {sel : List (Option Nat)} : ∀ {l : List AV}, hbL 0 l = true → GcL H H' sel l l
  | [], _ => trivial
  | x :: xs, h => by simp only [hbL, Bool.and_eq_true] at h; exact ⟨.same x h.1, GcL.same h.2⟩

/-- a block, its cells numbered anew -/
inductive GcB (H H' : List Blk) (sel : List (Option Nat)) : BK → BK → Prop where
  | same (k : BK) (h : bkFree k = true) : GcB H H' sel k k
  | cells (t : TypeId) (cs cs' : List AV) (hle : cs'.length ≤ cs.length) (hsc : ∀ x ∈ cs', sc x = true) (hp : ∀ (j : Nat) (x y : AV), cs[j]? = some x → cs'[j]? = some y → Gc H H' sel x y) : GcB H H' sel (.cells t cs) (.cells t cs')

theorem GcB.l {H H' : List Blk} {sel : List (Option Nat)} {t : TypeId} {cs cs' : List AV} (hsc : ∀ x ∈ cs', sc x = true) (h : GcL H H' sel cs cs') : GcB H H' sel (.cells t cs) (.cells t cs') :=
  .cells t cs cs' (Nat.le_of_eq h.spec.1.symm) hsc h.spec.2

/-- the new blocks -/
def GcBs (H H' : List Blk) (sel : List (Option Nat)) : List (Option Nat) → List Blk → Prop
  | [], [] => True
  | none :: s, b :: r => (∃ v t, b = ⟨v, true, .cells t []⟩) ∧ GcBs H H' sel s r
  | some i :: s, b :: r => (∃ v k, getK H i = some ⟨v, true, k⟩ ∧ b.live = true ∧ GcB H H' sel k b.k) ∧ GcBs H H' sel s r
  | _, _ => False

theorem GcBs.spec {H H' : List Blk} {sel : List (Option Nat)} : ∀ {s : List (Option Nat)} {r : List Blk}, GcBs H H' sel s r → s.length = r.length ∧ ∀ (j : Nat) (b : Blk), r[j]? = some b →
    (s[j]? = some none ∧ ∃ v t, b = ⟨v, true, .cells t []⟩) ∨ ∃ i v k, s[j]? = some (some i) ∧ H[i]? = some ⟨v, true, k⟩ ∧ b.live = true ∧ GcB H H' sel k b.k
  | [], [], _ => ⟨rfl, fun j b h => by simp at h⟩
  | none :: s, b :: r, h => by
    obtain ⟨h1, h2⟩ := h
    obtain ⟨i1, i2⟩ := GcBs.spec h2
    refine ⟨by simp [i1], fun j u hu => ?_⟩
    cases j with
    | zero => simp at hu; subst hu; exact .inl ⟨rfl, h1⟩
    | succ j => simp at hu; simpa using i2 j u hu
  | some i :: s, b :: r, h => by
    obtain ⟨⟨v, k, h0, h1, h1'⟩, h2⟩ := h
    obtain ⟨i1, i2⟩ := GcBs.spec h2
    refine ⟨by simp [i1], fun j u hu => ?_⟩
    cases j with
    | zero => simp at hu; subst hu; rw [getK_eq] at h0; exact .inr ⟨i, v, k, rfl, h0, h1, h1'⟩
    | succ j => simp at hu; simpa using i2 j u hu
  | [], _ :: _, h => h.elim
  | none :: _, [], h => h.elim
  | some _ :: _, [], h => h.elim

def Cx.gc (c : Cx) (H' : List Blk) (sel : List (Option Nat)) : Cx where
  H := H'
  μ := fun j => match sel[j]? with
    | some (some i) => c.μ i
    | _ => none
  hid := fun j => match sel[j]? with
    | some (some i) => c.hid i
    | _ => []
  w := c.w

section
variable {c : Cx} {H H' : List Blk} {sel : List (Option Nat)}

theorem gc_at {j x : Nat} (h : (c.gc H' sel).at_ j x) : ∃ i, sel[j]? = some (some i) ∧ c.at_ i x := by
  simp only [Cx.at_, Cx.gc] at h
  split at h
  · rename_i i hs
    exact ⟨i, hs, h⟩
  · rcases h with ⟨l, h, _⟩ | h
    · cases h
    · cases h

/-- what selects well -/
structure GcOk (c : Cx) (H H' : List Blk) (sel : List (Option Nat)) : Prop where
  hH : c.H = H
  len : sel.length = H'.length
  blk : ∀ (j : Nat) (b : Blk), H'[j]? = some b → (sel[j]? = some none ∧ ∃ v t, b = ⟨v, true, .cells t []⟩) ∨ ∃ i v k, sel[j]? = some (some i) ∧ H[i]? = some ⟨v, true, k⟩ ∧ b.live = true ∧ GcB H H' sel k b.k
  inj : ∀ (j j' i : Nat), sel[j]? = some (some i) → sel[j']? = some (some i) → j = j'

theorem gc_O (g : GcOk c H H' sel) {x : Nat} (h : (c.gc H' sel).O x) : ∃ i, some i ∈ sel ∧ c.live i ∧ c.at_ i x := by
  obtain ⟨j, h1, h2⟩ := h
  obtain ⟨i, hs, ha⟩ := gc_at h2
  obtain ⟨b, hb, _⟩ := live_blk h1
  rcases g.blk j b hb with ⟨h, _⟩ | ⟨i', v, k, h, hi, hl, _⟩
  · rw [hs] at h; cases h
  · rw [hs] at h; cases h
    exact ⟨i, List.mem_of_getElem? hs, live_of (by rw [g.hH]; exact hi) rfl, ha⟩

theorem Gc.vr (hr : HR c) (g : GcOk c H H' sel) {a a' : AV} (h : Gc H H' sel a a') : ∀ {v : Value}, VR c a v → VR (c.gc H' sel) a' v := by
  have hH := g.hH
  have own : ∀ x, (c.gc H' sel).O x → c.O x ∨ c.w.heap.size ≤ x := fun x hx => by
    obtain ⟨i, _, h1, h2⟩ := gc_O g hx
    exact .inl ⟨i, h1, h2⟩
  have notO : ∀ {i ver : Nat} {t : TypeId} {cs : List AV} {l : Loc}, liveCells H i ver = some (t, cs) → some i ∉ sel → c.μ i = some l → ¬ (c.gc H' sel).O l.b := by
    intro i ver t cs l hl hi hμ ho
    obtain ⟨j, hj, h3, h4⟩ := gc_O g ho
    have := hr.inj i j l.b (live_of (by rw [hH]; exact liveCells_some hl) rfl) h3 (.inl ⟨l, hμ, rfl⟩) h4
    subst this
    exact hi hj
  have θ' : ∀ {j i v' : Nat} {k' : BK}, sel[j]? = some (some i) → H'[j]? = some ⟨v', true, k'⟩ → (c.gc H' sel).θ j = some (v', c.μ i) := by
    intro j i v' k' hs hj
    have : (c.gc H' sel).H[j]? = some ⟨v', true, k'⟩ := hj
    rw [θ_of this]
    simp only [Cx.gc, hs]
  induction h with
  | same a h => intro v hv; exact VR.move (c := c) (d := c.gc H' sel) (n := 0) (Nat.le_refl _) (fun _ _ _ => rfl) own (Nat.zero_le _) (fun i hi => by omega) hv h
  | top a => intro v _; exact .top v
  | nil z k => intro v hv; cases hv; exact .immE z none k
  | nilOwn j v' sz t hs hj =>
    intro v hv
    cases hv
    have hθ : (c.gc H' sel).θ j = some (v', none) := by
      have : (c.gc H' sel).H[j]? = some ⟨v', true, .cells t []⟩ := hj
      rw [θ_of this]
      simp only [Cx.gc, hs]
    refine .own _ _ _ _ _ _ ⟨_, _, _, rfl, by omega⟩ (θ_lt hθ) (fun v0 m hm => ?_) (fun _ => ⟨rfl, rfl, rfl⟩) (fun l hl => ?_)
    · rw [hθ] at hm; cases hm; exact Nat.le_refl _
    · rw [hθ] at hl; cases hl
  | ptr j i v v' off k k' hs hi hj =>
    intro u hu
    have hθ := θ' hs hj
    have hθc : c.θ i = some (v, c.μ i) := θ_of (by rw [hH]; exact hi)
    cases hu with
    | ptr _ _ _ _ hv hi' hle hp =>
      refine .ptr _ _ _ _ hv (θ_lt hθ) (fun v0 m hm => ?_) (fun m hm => ?_)
      · rw [hθ] at hm; cases hm; exact Nat.le_refl _
      · rw [hθ] at hm; cases hm; exact hp _ hθc
  | own j i v v' off len sz k k' hs hi hj =>
    intro u hu
    have hθ := θ' hs hj
    have hθc : c.θ i = some (v, c.μ i) := θ_of (by rw [hH]; exact hi)
    cases hu with
    | own _ _ _ _ _ _ hv hi' hle hn hp =>
      refine .own _ _ _ _ _ _ hv (θ_lt hθ) (fun v0 m hm => ?_) (fun hm => ?_) (fun l hm => ?_)
      · rw [hθ] at hm; cases hm; exact Nat.le_refl _
      · have e := congrArg Prod.snd (Option.some.inj (hθ.symm.trans hm))
        exact hn (by rw [hθc]; exact congrArg (fun z => some (v, z)) e)
      · have e := congrArg Prod.snd (Option.some.inj (hθ.symm.trans hm))
        exact hp l (by rw [hθc]; exact congrArg (fun z => some (v, z)) e)
  | ownC i v off len cap sz b h ih =>
    intro u hu
    cases hu with
    | ownC _ _ _ _ _ _ _ h1 _ => exact ih h1
  | map j i v v' k k' hs hi hj =>
    intro u hu
    have hθ := θ' hs hj
    have hθc : c.θ i = some (v, c.μ i) := θ_of (by rw [hH]; exact hi)
    cases hu with
    | map _ _ _ hv hi' hle hn hp =>
      refine .map _ _ _ hv (θ_lt hθ) (fun v0 m hm => ?_) (fun hm => ?_) (fun l hm => ?_)
      · rw [hθ] at hm; cases hm; exact Nat.le_refl _
      · have e := congrArg Prod.snd (Option.some.inj (hθ.symm.trans hm))
        exact hn (by rw [hθc]; exact congrArg (fun z => some (v, z)) e)
      · have e := congrArg Prod.snd (Option.some.inj (hθ.symm.trans hm))
        exact hp l (by rw [hθc]; exact congrArg (fun z => some (v, z)) e)
  | pubOwn i ver off len sz t cs l hl hi hlen hsz hsc hle' hp ih =>
    intro v hv
    have hb := liveCells_some hl
    rw [← hH] at hb
    rcases own_at hv hb with ⟨hμ, rfl, h3, _⟩ | ⟨p, a, cap, hμ, rfl, g1, _, g2, g3⟩
    · have : l = [] := List.eq_nil_of_length_eq_zero (by omega)
      subst this
      exact .immE _ _ _
    · by_cases hcap : cap = 0
      · have : l = [] := List.eq_nil_of_length_eq_zero (by omega)
        subst this
        obtain rfl : len = 0 := by omega
        exact .immE _ _ _
      · have ha := g2 hcap
        subst ha
        obtain ⟨vs, fr, k1, k2, k3, k4, k5, k6⟩ := blk_cells hr hb hμ
        rw [← hlen]
        refine .imm sz l _ cap (fun j => (c.w.cell? ⟨p.b, p.base + off + j, none⟩).getD undef) (by omega) hsz hsc (notO hl hi hμ) ?_ rfl ?_ ?_
        · exact hr.lt i p.b (live_of hb rfl) (.inl ⟨p, hμ, rfl⟩)
        · intro j hj
          have hy := List.getElem?_eq_getElem (l := cs) (i := off + j) (by omega)
          obtain ⟨u, hu, _⟩ := k5 _ _ hy
          have : c.w.cell? ⟨p.b, p.base + off + j, none⟩ = some u := by rw [cell_heap k1, ← hu]; congr 1; omega
          show c.w.cell? _ = _
          rw [this]; rfl
        · intro j x hx
          have hj := getElem?_lt hx
          have hy := List.getElem?_eq_getElem (l := cs) (i := off + j) (by omega)
          obtain ⟨u, hu, hvr⟩ := k5 _ _ hy
          have : c.w.cell? ⟨p.b, p.base + off + j, none⟩ = some u := by rw [cell_heap k1, ← hu]; congr 1; omega
          rw [this]
          exact ih j x _ hx hy hvr
  | pubPtr i ver off t cs l hl hi hsc hle' hp ih =>
    intro v hv
    have hb := liveCells_some hl
    rw [← hH] at hb
    obtain ⟨p, hμ, rfl⟩ := ptr_at hv hb
    obtain ⟨vs, fr, k1, k2, k3, k4, k5, k6⟩ := blk_cells hr hb hμ
    refine .pimm l _ (fun j => (c.w.cell? ⟨p.b, p.base + off + j, none⟩).getD undef) hsc (notO hl hi hμ) ?_ rfl ?_ ?_
    · exact hr.lt i p.b (live_of hb rfl) (.inl ⟨p, hμ, rfl⟩)
    · intro j hj
      have hy := List.getElem?_eq_getElem (l := cs) (i := off + j) (by omega)
      obtain ⟨u, hu, _⟩ := k5 _ _ hy
      have : c.w.cell? ⟨p.b, p.base + off + j, none⟩ = some u := by rw [cell_heap k1, ← hu]; congr 1; omega
      show c.w.cell? _ = _
      rw [this]; rfl
    · intro j x hx
      have hj := getElem?_lt hx
      have hy := List.getElem?_eq_getElem (l := cs) (i := off + j) (by omega)
      obtain ⟨u, hu, hvr⟩ := k5 _ _ hy
      have : c.w.cell? ⟨p.b, p.base + off + j, none⟩ = some u := by rw [cell_heap k1, ← hu]; congr 1; omega
      rw [this]
      exact ih j x _ hx hy hvr
  | agg l m hlen hsc hp ih =>
    intro v hv
    cases hv with
    | agg _ vs _ hl h =>
      refine .agg m vs hsc (hlen.symm.trans hl) fun j y u hy hu => ?_
      have hj : j < l.length := by rw [hlen]; exact getElem?_lt hy
      exact ih j _ y (List.getElem?_eq_getElem hj) hy (h j _ u (List.getElem?_eq_getElem hj) hu)
  | tup l m hlen hp ih =>
    intro v hv
    cases hv with
    | tup _ vs hl h =>
      refine .tup m vs (hlen.symm.trans hl) fun j y u hy hu => ?_
      have hj : j < l.length := by rw [hlen]; exact getElem?_lt hy
      exact ih j _ y (List.getElem?_eq_getElem hj) hy (h j _ u (List.getElem?_eq_getElem hj) hu)
  | iface t x y hp ih =>
    intro v hv
    cases hv with
    | iface _ _ u h => exact .iface t y u (ih h)
  | fn f a b a' b' hl hl' ha hb iha ihb =>
    intro v hv
    cases hv with
    | fn _ _ _ vf vc hlf hlc hf hc =>
      refine .fn f a' b' vf vc (hl.symm.trans hlf) (hl'.symm.trans hlc) (fun j x u hx hu => ?_) (fun j x u hx hu => ?_)
      · have hj := getElem?_lt hx
        have hy := List.getElem?_eq_getElem (l := a) (i := j) (by omega)
        exact iha j _ x hy hx (hf j _ u hy hu)
      · have hj := getElem?_lt hx
        have hy := List.getElem?_eq_getElem (l := b) (i := j) (by omega)
        exact ihb j _ x hy hx (hc j _ u hy hu)

theorem HR.gc (hr : HR c) (g : GcOk c H H' sel) : HR (c.gc H' sel) := by
  have back : ∀ j, (c.gc H' sel).live j → ∀ i, sel[j]? = some (some i) → c.live i := by
    intro j hj i hs
    obtain ⟨b, hb, _⟩ := live_blk hj
    rcases g.blk j b hb with ⟨h, _⟩ | ⟨i', v, k, h, hi, hl, _⟩
    · rw [hs] at h; cases h
    · rw [hs] at h; cases h
      exact live_of (by rw [g.hH]; exact hi) rfl
  constructor
  · intro j b hb hl
    rcases g.blk j b hb with ⟨hs, v, t, rfl⟩ | ⟨i, v, k, hs, hi, hl', hk⟩
    · have e1 : (c.gc H' sel).μ j = none := by simp [Cx.gc, hs]
      have e2 : (c.gc H' sel).hid j = [] := by simp [Cx.gc, hs]
      rw [e1, e2]
      exact ⟨rfl, by simp, rfl⟩
    · have e1 : (c.gc H' sel).μ j = c.μ i := by simp [Cx.gc, hs]
      have e2 : (c.gc H' sel).hid j = c.hid i := by simp [Cx.gc, hs]
      rw [e1, e2]
      have B := hr.blk i _ (by rw [g.hH]; exact hi) rfl
      generalize b.k = k' at hk
      cases hk with
      | same _ hf => exact BR.free hf (fun a v ha hv => (Gc.same a ha).vr hr g hv) B (fun _ _ => rfl) (fun _ _ => rfl)
      | cells t cs cs' hle hsc hp =>
        obtain ⟨h1, h2, h3⟩ := B
        refine ⟨h1, hsc, ?_⟩
        cases hm : c.μ i with
        | none =>
          rw [hm] at h3
          have h3 : cs = [] := h3
          subst h3
          exact List.eq_nil_of_length_eq_zero (by simpa using hle)
        | some p =>
          rw [hm] at h3
          obtain ⟨vs, fr, g1, g2, g3, g4, g5⟩ := h3
          refine ⟨vs, fr, g1, g2, by omega, fun q y hy => ?_, g5⟩
          have hq := getElem?_lt hy
          have hx := List.getElem?_eq_getElem (l := cs) (i := q) (by omega)
          obtain ⟨v, a1, a2⟩ := g4 q _ hx
          exact ⟨v, a1, (hp q _ y hx hy).vr hr g a2⟩
  · intro j j' x hj hj' hx hx'
    obtain ⟨i, hs, ha⟩ := gc_at hx
    obtain ⟨i', hs', ha'⟩ := gc_at hx'
    have := hr.inj i i' x (back j hj i hs) (back j' hj' i' hs') ha ha'
    subst this
    exact g.inj j j' i hs hs'
  · intro j l hj hl
    have ha : (c.gc H' sel).at_ j l.b := .inl ⟨l, hl, rfl⟩
    obtain ⟨i, hs, _⟩ := gc_at ha
    have e1 : (c.gc H' sel).μ j = c.μ i := by simp [Cx.gc, hs]
    have e2 : (c.gc H' sel).hid j = c.hid i := by simp [Cx.gc, hs]
    rw [e2]
    exact hr.hid i l (back j hj i hs) (e1 ▸ hl)
  · intro j x hj hx
    obtain ⟨i, hs, ha⟩ := gc_at hx
    exact hr.lt i x (back j hj i hs) ha
end

/-- slots, numbered anew -/
def HasG (H H' : List Blk) (sel : List (Option Nat)) (tm : List AV) : List (Nat × AV) → Prop
  | [] => True
  | (i, v) :: r => (∃ a, getK tm i = some a ∧ Gc H H' sel a v) ∧ HasG H H' sel tm r

theorem hasG_mem {H H' : List Blk} {sel : List (Option Nat)} {tm : List AV} : ∀ {l : List (Nat × AV)}, HasG H H' sel tm l → ∀ p ∈ l, ∃ a, tm[p.1]? = some a ∧ Gc H H' sel a p.2
  | [], _, p, h => by simp at h
  | (i, v) :: r, h, p, hp => by
    obtain ⟨⟨a, h1, h2⟩, h3⟩ := h
    rcases List.mem_cons.mp hp with hp | hp
    · subst hp; exact ⟨a, by rwa [getK_eq] at h1, h2⟩
    · exact hasG_mem h3 p hp

/-- the caller's blocks stay what they are -/
def keepN : List Blk → List Blk → List Blk → List (Option Nat) → Nat → Bool
  | [], _, _, _, _ => true
  | _ :: n0, b :: H, b' :: H', s :: sel, i => (match s with
    | some j => Nat.beq j i && Nat.beq b.ver b'.ver
    | none => false) && keepN n0 H H' sel (i + 1)
  | _, _, _, _, _ => false

theorem keepN_spec : ∀ {n0 H H' : List Blk} {sel : List (Option Nat)} {i : Nat}, keepN n0 H H' sel i = true → ∀ k, k < n0.length → sel[k]? = some (some (i + k)) ∧ ∃ b b', H[k]? = some b ∧ H'[k]? = some b' ∧ b.ver = b'.ver
  | [], _, _, _, _, _, k, hk => by simp at hk
  | x :: n0, b :: H, b' :: H', s :: sel, i, h, k, hk => by
    simp only [keepN, Bool.and_eq_true] at h
    obtain ⟨h1, h2⟩ := h
    cases k with
    | zero =>
      split at h1
      · simp only [Bool.and_eq_true] at h1
        exact ⟨by simp [Nat.eq_of_beq_eq_true h1.1], b, b', rfl, rfl, Nat.eq_of_beq_eq_true h1.2⟩
      · cases h1
    | succ k =>
      obtain ⟨g1, b1, b2, g2, g3, g4⟩ := keepN_spec h2 k (by simpa using hk)
      exact ⟨by rw [List.getElem?_cons_succ, g1]; congr 2; omega, b1, b2, by simpa using g2, by simpa using g3, g4⟩

def selNodup (sel : List (Option Nat)) : Bool :=
  match sel with
  | [] => true
  | none :: r => selNodup r
  | some i :: r => !(r.any fun x => match x with
    | some j => Nat.beq j i
    | none => false) && selNodup r

theorem selNodup_spec : ∀ {sel : List (Option Nat)}, selNodup sel = true → ∀ (j j' i : Nat), sel[j]? = some (some i) → sel[j']? = some (some i) → j = j'
  | [], _, j, j', i, h, _ => by simp at h
  | none :: r, hn, j, j', i, h, h' => by
    have ih := selNodup_spec (sel := r) hn
    cases j with
    | zero => simp at h
    | succ j =>
      cases j' with
      | zero => simp at h'
      | succ j' => simp at h h'; rw [ih j j' i h h']
  | some k :: r, hn, j, j', i, h, h' => by
    simp only [selNodup, Bool.and_eq_true, Bool.not_eq_true', List.any_eq_false] at hn
    have ih := selNodup_spec (sel := r) hn.2
    have no : ∀ q, r[q]? = some (some k) → False := fun q hq => by
      have := hn.1 (some k) (List.mem_of_getElem? hq)
      simp at this
    cases j with
    | zero =>
      cases j' with
      | zero => rfl
      | succ j' => simp at h h'; subst h; exact (no j' h').elim
    | succ j =>
      cases j' with
      | zero => simp at h h'; subst h'; exact (no j h).elim
      | succ j' => simp at h h'; rw [ih j j' i h h']

section
variable {E : Env} {n0 : List Blk}

theorem Ext.gc {c0 c : Cx} {H' : List Blk} {sel : List (Option Nat)} (hn : c0.H = n0) (e : Ext c0 c) (g : GcOk c c.H H' sel) (hk : keepN n0 c.H H' sel 0 = true) : Ext c0 (c.gc H' sel) := by
  have θeq : ∀ i, i < c0.H.length → (c.gc H' sel).θ i = c.θ i := by
    intro i hi
    obtain ⟨h1, b, b', h2, h3, h4⟩ := keepN_spec hk i (by rw [← hn]; exact hi)
    rw [Nat.zero_add] at h1
    rcases g.blk i b' h3 with ⟨h, _⟩ | ⟨i', v, k, h, hi', hl, _⟩
    · rw [h1] at h; cases h
    · rw [h1] at h; cases h
      rw [h2] at hi'
      cases hi'
      have e1 : c.θ i = some (v, c.μ i) := θ_of h2
      have hv : v = b'.ver := h4
      have e2 : (c.gc H' sel).H[i]? = some ⟨v, true, b'.k⟩ := by
        show H'[i]? = _
        rw [h3, hv]
        cases b'
        simp at hl
        rw [hl]
      rw [e1, θ_of e2]
      simp only [Cx.gc, h1]
  exact {
    n := by
      have h := keepN_spec hk
      rw [hn]
      rcases Nat.lt_or_ge H'.length n0.length with hlt | hge
      · obtain ⟨_, _, b', _, h3, _⟩ := h H'.length hlt
        rw [List.getElem?_eq_none (Nat.le_refl _)] at h3
        cases h3
      · exact hge
    old := fun i v m v' m' h h' => e.old i v m v' m' h (by rw [← θeq i (θ_lt h)]; exact h')
    dead := fun i hi h => by rw [θeq i hi]; exact e.dead i hi h
    os := e.os
    tape := e.tape
    output := e.output
    size := e.size
    same := e.same
    own := fun x h => by
      obtain ⟨i, _, h1, h2⟩ := gc_O g h
      exact e.own x ⟨i, h1, h2⟩ }

/-- blocks are let go, numbered anew, published -/
theorem Wk.gc {tm : List AV} {H H' : List Blk} {l : List (Nat × AV)} {m : Nat} (sel : List (Option Nat)) (hm : lenK tm = m) (hk : keepN n0 H H' sel 0 = true) (hs : selNodup sel = true) (hb : GcBs H H' sel sel H') (hl : HasG H H' sel tm l) :
    Wk E n0 ⟨tm, H⟩ ⟨Ink.slots m l, H'⟩ := by
  rw [lenK_eq] at hm
  unfold Wk
  intro c0 c a hc hsim
  have hcH : c.H = H := hsim.H
  have g : GcOk c H H' sel := ⟨hcH, hb.spec.1, hb.spec.2, selNodup_spec hs⟩
  have hr := hsim.hr
  refine ⟨c.gc H' sel, rfl, ⟨rfl, hr.gc g, ?_, ?_, ?_, hsim.defers⟩⟩
  · obtain ⟨h1, h2⟩ := slots_go l m 0
    refine ⟨by show (slots.go m l 0).length = _; rw [h1, ← hm]; exact hsim.tr.len, fun t x v hx hv => ?_⟩
    have ht : t < m := by
      rw [← h1]
      rcases Nat.lt_or_ge t (slots.go m l 0).length with h' | h'
      · exact h'
      · rw [show (Ink.slots m l) = slots.go m l 0 from rfl, List.getElem?_eq_none h'] at hx; cases hx
    rw [show (Ink.slots m l) = slots.go m l 0 from rfl, h2 t ht, Nat.zero_add] at hx
    cases hx
    rcases slots_at l t with h3 | ⟨p, hp, h3, h4⟩
    · rw [h3]; exact .top v
    · rw [h4]
      obtain ⟨b, hb', hg⟩ := hasG_mem hl p hp
      rw [h3] at hb'
      exact hg.vr hr g (hsim.tr.at_ t _ v hb' hv)
  · subst hcH; exact hsim.ext.gc hc.1 g hk
  · refine ⟨hsim.g.le, fun x hx => ⟨(hsim.g.at_ x hx).1, fun ho => (hsim.g.at_ x hx).2 ?_⟩⟩
    obtain ⟨i, _, h1, h2⟩ := gc_O g ho
    exact ⟨i, h1, h2⟩

/-- a result, its blocks numbered anew -/
theorem RetG.gc {r r' : AV} {H H' : List Blk} {Q : AV → List Blk → Prop} (sel : List (Option Nat)) (hk : keepN n0 H H' sel 0 = true) (hs : selNodup sel = true) (hb : GcBs H H' sel sel H') (hr' : Gc H H' sel r r') (h : Q r' H') : RetG E n0 r H Q := by
  unfold RetG
  refine ⟨r', H', ?_, h⟩
  unfold WkV
  intro c0 c v hc he hg hcH hr hv
  have g : GcOk c H H' sel := ⟨hcH, hb.spec.1, hb.spec.2, selNodup_spec hs⟩
  refine ⟨c.gc H' sel, rfl, rfl, hr.gc g, ?_, hr'.vr hr g hv⟩
  subst hcH; exact he.gc hc.1 g hk
end
end Ink

namespace Ink
open Go
variable {E : Env} {n0 : List Blk}

/-- what the arguments' values say -/
theorem ACalls.have {f : FuncId} {args : List AV} {H : List Blk} {Q : AV → List Blk → Prop} {φ : Prop} (hφ : ∀ c vs, LR c args vs → φ) (h : φ → ACalls E f args H Q) : ACalls E f args H Q := by
  unfold ACalls at *
  intro c vs hH hr hg hl
  exact h (hφ c vs hl) c vs hH hr hg hl

theorem PCalls.have {f : FuncId} {args : List AV} {Q : AV → Prop} {φ : Prop} (hφ : ∀ c vs, LR c args vs → φ) (h : φ → PCalls E f args Q) : PCalls E f args Q := by
  unfold PCalls at *
  exact fun H => ACalls.have hφ fun hp => h hp H

theorem BCalls.have {f : FuncId} {args : List AV} {ks : List BK} {Q : AV → List BK → Prop} {φ : Prop} (hφ : ∀ c vs, LR c args vs → φ) (h : φ → BCalls E f args ks Q) : BCalls E f args ks Q := by
  unfold BCalls at *
  exact fun l => ACalls.have hφ fun hp => h hp l

theorem VR.ik {c : Cx} {k : IntKind} {n : Int} {v : Value} (h : VR c (.int k n) v) : IK k n := by
  cases h with
  | int _ _ h => exact h

theorem LR.at {c : Cx} {l : List AV} {vs : List Value} (h : LR c l vs) (j : Nat) {x : AV} (hx : l[j]? = some x) : ∃ v, vs[j]? = some v ∧ VR c x v := by
  have hj := getElem?_lt hx
  have hj2 : j < vs.length := by rw [← h.len]; exact hj
  exact ⟨_, List.getElem?_eq_getElem hj2, h.at_ j x _ hx (List.getElem?_eq_getElem hj2)⟩

theorem LR.ik {c : Cx} {l : List AV} {vs : List Value} (h : LR c l vs) (j : Nat) {n : Int} (hx : l[j]? = some (.int .i64 n)) : inI64 n := by
  obtain ⟨v, _, hv⟩ := h.at j hx
  exact IK_i64.1 hv.ik

theorem LR.ikA {c : Cx} {l m : List AV} {vs : List Value} (h : LR c l vs) (j i : Nat) {n : Int} (hx : l[j]? = some (.agg m)) (hi : m[i]? = some (.int .i64 n)) : inI64 n := by
  obtain ⟨v, _, hv⟩ := h.at j hx
  obtain ⟨ws, _, hw, _⟩ := hv.aggI
  exact hw.ik i hi

theorem Pub.tup2 {H : List Blk} {n : Nat} {a a' b b' : AV} (h1 : Pub H n a a') (h2 : Pub H n b b') : Pub H n (.tup [a, b]) (.tup [a', b']) := by
  have h : PubL H n [a, b] [a', b'] := ⟨h1, h2, trivial⟩
  exact .tup _ _ h.spec.1 h.spec.2
theorem Pub.tup3 {H : List Blk} {n : Nat} {a a' b b' d d' : AV} (h1 : Pub H n a a') (h2 : Pub H n b b') (h3 : Pub H n d d') : Pub H n (.tup [a, b, d]) (.tup [a', b', d']) := by
  have h : PubL H n [a, b, d] [a', b', d'] := ⟨h1, h2, h3, trivial⟩
  exact .tup _ _ h.spec.1 h.spec.2
end Ink
