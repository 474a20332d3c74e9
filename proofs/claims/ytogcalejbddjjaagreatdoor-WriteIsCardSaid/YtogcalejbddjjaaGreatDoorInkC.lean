import Derived.Test.YtogcalejbddjjaaGreatDoorInkBB
import Derived.Carry
import Derived.ChangeSame
import Derived.OpenShut
import Derived.ProofKit
import Derived.ChangeSlices
import Derived.ChangeMaps5
set_option linter.all false
namespace Ink
open Go Go.ChangeShapes Go.WideShapes Go.ChangeAt Go.RowKit

/-! what a contract says of the kit's calls -/

def cx0 (W : World) : Cx := { H := [], μ := fun _ => none, hid := fun _ => [], w := W }

theorem cx0_live (W : World) (i : Nat) : ¬ (cx0 W).live i := by
  simp [cx0, Cx.live, Cx.θ]

theorem cx0_O (W : World) (x : Nat) : ¬ (cx0 W).O x := fun ⟨i, h, _⟩ => cx0_live W i h

theorem hr0 (W : World) : HR (cx0 W) where
  blk := by intro i b h; simp [cx0] at h
  inj := fun i _ _ h => absurd h (cx0_live W i)
  hid := fun i _ h => absurd h (cx0_live W i)
  lt := fun i _ h => absurd h (cx0_live W i)

def env0 (P : Program) : Env := { P, N := 0, G := fun _ => none }

theorem PCalls.calls {P : Program} {f : FuncId} {fn : Func} {b : Code} {args : List AV} {vs : List Value} {W : World} (hf : P.funcs[f]? = some fn) (hb : fn.body = some b) (hn : (fn.name == "runtime.NumGoroutine") = false)
    (h : PCalls (env0 P) f args (· = .bool true)) (hl : LR (cx0 W) args vs) :
    Calls P f vs.toArray W fun e w' => e = .returned (.bool true) ∧ Below W.heap.size W w' := by
  unfold PCalls at h
  have h1 := h []
  unfold ACalls at h1
  have hg : GOk (env0 P) (cx0 W) := ⟨Nat.zero_le _, fun x hx => absurd hx (Nat.not_lt_zero _)⟩
  have h2 := h1 (cx0 W) vs rfl (hr0 W) hg hl
  have fin : ∀ v w', (∃ d r, d.w = w' ∧ HR d ∧ Ext (cx0 W) d ∧ VR d r v ∧ (r = .bool true) ∧ d.H = []) → v = .bool true ∧ Below W.heap.size W w' := by
    rintro v w' ⟨d, r, rfl, _, e, hv, rfl, _⟩
    refine ⟨?_, e.os, e.tape, e.output, e.size, fun k hk => e.same k hk (cx0_O W k)⟩
    cases hv; rfl
  rcases h2 with ⟨_, h3⟩ | ⟨v, w', h3, _⟩
  · exact h3.mono fun e w' ⟨v, he, hv⟩ => by
      obtain ⟨rfl, hb⟩ := fin v w' hv
      exact ⟨he, hb⟩
  · exfalso
    have hn' : ¬ fn.name = "runtime.NumGoroutine" := by simpa using hn
    have : (callFunc f vs.toArray).run P W = .ok (.enter f vs.toArray) W := by simp [callFunc, hf, hb, hn']
    rw [show (cx0 W).w = W from rfl, show (env0 P).P = P from rfl] at h3
    rw [this] at h3
    cases h3

theorem trodAll_below {H : Type} {enc : TypeId × Value → H} {P : Program} (hl : laidOutB P = true) {W W' : World} (hb : Below W.heap.size W W') : ∀ {ts : List TypeId} {vs : List Value} {ds : List (DataW H)} {p : List MemPlace},
    (ts.all fun t => P.readableRec t && decide (t < P.types.size)) = true → DataW.TrodAll enc P W 0 (fun _ => true) true ts vs ds p → (∀ x ∈ p, x.block < W.heap.size) →
    ∀ sp : Nat → Bool, (∀ x ∈ p, sp x.block = true) → DataW.TrodAll enc P W' 0 sp true ts vs ds p
  | [], vs, ds, p, _, h, _, _, _ => by
    obtain ⟨rfl, rfl, rfl⟩ := trodAll_nil h
    exact trodAll_mk0
  | t :: ts, vs, ds, p, ht, h, hlt, sp, hsp => by
    simp only [List.all_cons, Bool.and_eq_true, decide_eq_true_eq] at ht
    obtain ⟨v, vs1, d, ds1, a, b, rfl, rfl, rfl, h1, h2⟩ := trodAll_cons h
    have e1 : DataW.Trod enc P W' 0 sp true t v d a := WideElems.Trod_stays hl ht.1.1 ht.1.2 h1 (fun x hx => hb.same (hlt x (by simp [hx]))) (fun x hx => hsp x (by simp [hx]))
    exact trodAll_cons_mk e1 (trodAll_below hl hb (by simpa using ht.2) h2 (fun x hx => hlt x (by simp [hx])) sp (fun x hx => hsp x (by simp [hx])))

/-- what a law's row asks, out of its call -/
theorem law_post {H : Type} {enc : TypeId × Value → H} {P : Program} {f : FuncId} {fn : Func} {s : ChangeSpec} {W : World} {args : Array Value} {ds gs : List (DataW H)} {before : List MemPlace} {tb : TypeId}
    (hW : DataW.Whole enc P fn.params.toList s.vars false W args.toList ds gs before) (hv : s.vars = []) (hres : fn.resultTypes = #[tb]) (htb : P.underlying tb = some .bool)
    (hs : ∀ ds' : List (DataW H), ds'.length = fn.params.toList.length → s.fn H ds' = { results := [.lit (.bool true)], args := ds' }) (hl : laidOutB P = true)
    (hp : (fn.params.toList.all fun t => P.readableRec t && decide (t < P.types.size)) = true)
    (h : Calls P f args W fun e W' => e = .returned (.bool true) ∧ Below W.heap.size W W') :
    Calls P f args W fun e W' => ∃ v, e = .returned v ∧ s.post enc P fn false true false false W args v W' := by
  refine h.mono fun e W' ⟨he, hb⟩ => ⟨_, he, ?_⟩
  have hold := hW.lt
  obtain ⟨p, q, hA, hV, rfl, hz, hn⟩ := id hW
  rw [hv] at hV
  obtain ⟨rfl, rfl⟩ := trodVars_none hV
  have hlen : ds.length = fn.params.toList.length := by
    have : ∀ {ts : List TypeId} {vs : List Value} {ds : List (DataW H)} {p : List MemPlace}, DataW.TrodAll enc P W 0 (fun _ => true) true ts vs ds p → ds.length = ts.length := by
      intro ts
      induction ts with
      | nil => intro vs ds p h; obtain ⟨_, rfl, _⟩ := trodAll_nil h; rfl
      | cons t ts ih =>
        intro vs ds p h
        obtain ⟨v, vs1, d, ds1, a, b, rfl, rfl, rfl, h1, h2⟩ := trodAll_cons h
        simp [ih h2]
    exact this hA
  simp only [List.append_nil] at hold hz hn hW
  have hfn := hs ds hlen
  have hin : ∀ x ∈ p, x.block < W.heap.size := fun x hx => by simpa using hold x hx
  have hbool : ∀ (b : Nat) (sp : Nat → Bool) (hd : Bool), DataW.TrodAll enc P W' b sp hd fn.resultTypes.toList ((Value.bool true).resultList fn.resultTypes.size) (s.fn H (ds ++ [])).results [] := by
    intro b sp hd
    rw [List.append_nil, hfn, hres]
    exact trodAll_mk1 (shut_bool htb true)
  have hargs : ∀ sp : Nat → Bool, (∀ x ∈ p, sp x.block = true) → DataW.TrodAll enc P W' 0 sp true fn.params.toList args.toList (s.fn H (ds ++ [])).args p := by
    intro sp hsp
    rw [List.append_nil, hfn]
    exact trodAll_below hl hb hp hA hin sp hsp
  have hvars : ∀ sp : Nat → Bool, DataW.TrodVars enc P W' sp s.vars (s.fn H (ds ++ [])).vars [] := by
    intro sp
    rw [List.append_nil, hfn, hv]
    rfl
  have hold' : ∀ x ∈ p, (fun b => decide (b < W.heap.size)) x.block = true := fun x hx => by simpa using hin x hx
  refine ⟨ds, [], p, [], p, [], hW, hbool _ _ _, hargs _ hold', hvars _, World.keptBut_mono (fun x hx => ⟨hx, ?_⟩) (hb.frame (· ∈ p)), fun _ => ?_⟩
  · exact Or.inr (Or.inl hx)
  · refine ⟨ok_one hres rfl (okWide_bool_mk htb _), _, _, ([] ++ p) ++ [], ⟨[] ++ p, [], trodAll_append (hargs _ (fun _ _ => rfl)) (hbool _ _ _), hvars _, rfl, ?_, ?_⟩, ?_⟩
    · intro b off hx
      have hx' : MemPlace.cell b off ∈ p := by simpa using hx
      have hlt := hin _ hx'
      rw [Below.frozen hb (p := ⟨b, off, none⟩) hlt]
      exact hz b off hx'
    · intro ha
      have := hn ha
      simpa using this
    · intro x hx _
      simpa using hx
end Ink

namespace Ink
open Go Go.ChangeShapes Go.WideShapes Go.ChangeAt Go.RowKit

theorem wf_u8 {n : Int} (h : (Lit.int .u8 n).wf = true) : 0 ≤ n ∧ n ≤ 255 := by
  simp only [Lit.wf, Bool.and_eq_true, decide_eq_true_eq] at h
  exact h

theorem wf_ik {k : IntKind} {n : Int} (h : (Lit.int k n).wf = true) : IK k n := by
  simp only [Lit.wf, Bool.and_eq_true, decide_eq_true_eq] at h
  exact h

theorem byteOf {n : Int} (h : 0 ≤ n ∧ n ≤ 255) : ((UInt8.ofNat n.toNat).toNat : Int) = n := by
  rw [UInt8.toNat_ofNat']
  omega

/-- bytes handed in -/
theorem open_u8s {H : Type} {enc : TypeId × Value → H} {P : Program} {W : World} {t e : TypeId} {v : Value} {d : DataW H} {ps : List MemPlace} (ht : P.underlying t = some (.slice e)) (he : P.underlying e = some (.int .u8)) (hc : P.cellsOf e = 1)
    (hv : ∃ a l n, v = .slice a l n) (hd : DataW.Trod enc P W 0 (fun _ => true) true t v d ps) :
    ∃ b : List UInt8, VR (cx0 W) (.imm 1 (b.map fun c => [.int .u8 (c.toNat : Int)])) v ∧ b.length ≤ 9223372036854775807 := by
  obtain ⟨fuel, hf⟩ := hd
  obtain ⟨a0, l0, n0, rfl⟩ := hv
  have hcs : (Value.slice a0 l0 n0).cells.toList = [.slice a0 l0 n0] := rfl
  rw [hcs] at hf
  rcases open_ints ht he hc hf with ⟨h, _⟩ | ⟨a, len, cap, zs, h, hb, hlc, hcm, hzl, _, hcell, hwf⟩
  · simp only [List.cons.injEq, Value.slice.injEq, and_true] at h
    obtain ⟨rfl, rfl, rfl⟩ := h
    exact ⟨[], .immE 1 none 0, by simp⟩
  · simp only [List.cons.injEq, Value.slice.injEq, and_true] at h
    obtain ⟨rfl, rfl, rfl⟩ := h
    simp only [if_true] at hzl
    unfold maxLen at hcm
    let b : List UInt8 := (zs.take l0).map fun z => UInt8.ofNat z.toNat
    have hbl : b.length = l0 := by simp [b]; omega
    refine ⟨b, ?_, by omega⟩
    by_cases h0 : l0 = 0
    · have : b = [] := List.eq_nil_of_length_eq_zero (by omega)
      rw [this, h0]
      exact .immE 1 _ _
    · have hc0 := hcell 0 (by omega)
      have hadd0 : a.add 0 = a := rfl
      rw [hadd0] at hc0
      have hsp : a.spot = none := by
        unfold World.cell? at hc0
        split at hc0
        · split at hc0
          · cases hc0
          · rename_i h; simpa using h
        · cases hc0
      have hfl : ∀ b : List UInt8, (b.map fun c => [AV.int .u8 (c.toNat : Int)]).flatten = b.map fun c => AV.int .u8 (c.toNat : Int) := by
        intro b
        induction b with
        | nil => rfl
        | cons c r ih => simp only [List.map_cons, List.flatten_cons, ih]; rfl
      have key := VR.imm (c := cx0 W) 1 (b.map fun c => [.int .u8 (c.toNat : Int)]) a n0 (fun j => .int .u8 (zs.getD j 0)) (by simp; omega) (by simp) (by
        intro x hx
        rw [hfl] at hx
        obtain ⟨c, _, rfl⟩ := List.mem_map.mp hx
        rfl) (cx0_O W _) (lt_of_cell hc0) hsp (by
        intro j hj
        rw [hfl] at hj
        have hj' : j < zs.length := by simp at hj; omega
        have := hcell j hj'
        rw [← this]
        by_cases hj0 : j = 0
        · subst hj0; rw [hadd0]
          cases a; simp at hsp; subst hsp; rfl
        · unfold Addr.add; rw [if_neg hj0]; rfl) (by
        intro j x hx
        rw [hfl, List.getElem?_map] at hx
        obtain ⟨c, hcj, rfl⟩ := Option.map_eq_some_iff.mp hx
        have hj : j < l0 := by have := (List.getElem?_eq_some_iff.mp hcj).1; omega
        have hz : zs[j]? = some (zs.getD j 0) := by
          have : j < zs.length := by omega
          simp [this]
        have e : c = UInt8.ofNat (zs.getD j 0).toNat := by
          simp only [b, List.getElem?_map, List.getElem?_take, hj, if_true, hz, Option.map_some, Option.some.injEq] at hcj
          exact hcj.symm
        have hr := wf_u8 (hwf _ (List.mem_of_getElem? hz))
        rw [e, byteOf hr]
        exact .int _ _ (wf_ik (hwf _ (List.mem_of_getElem? hz))))
      simpa [hbl] using key
end Ink
