import Derived.Test.YtogcalejbddjjaaGreatDoorPObj
import Derived.Test.YtogcalejbddjjaaGreatDoorInkC
import Derived.Test.YtogcalejbddjjaaGreatDoorPCosB
import Derived.Test.YtogcalejbddjjaaGreatDoorPLexA
set_option linter.all false
namespace Ink.D
open Go Go.Proofs Go.ChangeShapes Go.WideShapes Go.ChangeAt Go.RowKit
set_option maxRecDepth 100000

structure ObT (P : Program) (tI tF tS tL tD tO tE : TypeId) : Prop where
  hI : P.underlying tI = some (.int .i64)
  hF : P.underlying tF = some (.int .i64)
  hS : P.underlying tS = some .string
  hL : P.underlying tL = some (.slice tO)
  hD : P.underlying tD = some (.slice tE)
  hO : ∃ fs, P.underlying tO = some (.struct fs) ∧ fs.toList.map (fun f => (f.type, f.offset)) = [(tI, 0), (tI, 1), (tF, 2), (tS, 3), (tL, 4), (tD, 5)]
  hE : ∃ fs, P.underlying tE = some (.struct fs) ∧ fs.toList.map (fun f => (f.type, f.offset)) = [(tS, 0), (tO, 1)]
  cI : P.cellsOf tI = 1
  cF : P.cellsOf tF = 1
  cS : P.cellsOf tS = 1
  cL : P.cellsOf tL = 1
  cD : P.cellsOf tD = 1
  cO : P.cellsOf tO = 6
  cE : P.cellsOf tE = 7
  bO : 1 ≤ P.bytesOf tO
  bE : 1 ≤ P.bytesOf tE

section
variable {H : Type} {enc : TypeId × Value → H} {P : Program} {W : World} {sp : Nat → Bool}

theorem trod_i64 {t : TypeId} {fuel : Nat} {cs : List Value} {x : DataW H × List MemPlace} (ht : P.underlying t = some (.int .i64)) (h : DataW.trod enc P W 0 sp true fuel t cs = some x) :
    ∃ n, cs = [.int .i64 n] ∧ IK .i64 n := by
  cases fuel with
  | zero => simp [DataW.trod] at h
  | succ f =>
    unfold DataW.trod at h
    rw [ht] at h
    split at h <;> simp_all
    exact wf_ik h.1.2

theorem trod_str {t : TypeId} {fuel : Nat} {cs : List Value} {x : DataW H × List MemPlace} (ht : P.underlying t = some .string) (h : DataW.trod enc P W 0 sp true fuel t cs = some x) :
    ∃ s, cs = [.string s] ∧ s.data.toList.length ∈ x.1.weights P t := by
  cases fuel with
  | zero => simp [DataW.trod] at h
  | succ f =>
    unfold DataW.trod at h
    rw [ht] at h
    split at h <;> simp_all
    obtain ⟨_, rfl⟩ := h
    simp [DataW.weights]

theorem weightsAll_mem {e : TypeId} {d : DataW H} {n : Nat} (hn : n ∈ d.weights P e) : ∀ {l : List (DataW H)}, d ∈ l → n ∈ DataW.weightsAll P e l
  | a :: l, h => by
    rw [DataW.weightsAll, List.mem_append]
    rcases List.mem_cons.mp h with rfl | h
    · exact .inl hn
    · exact .inr (weightsAll_mem hn h)

theorem weightsEach_mem {t : TypeId} {d : DataW H} {n : Nat} (hn : n ∈ d.weights P t) : ∀ {ts : List TypeId} {l : List (DataW H)} {i : Nat}, ts[i]? = some t → l[i]? = some d → n ∈ DataW.weightsEach P ts l
  | a :: ts, b :: l, 0, h1, h2 => by
    simp at h1 h2
    subst h1 h2
    rw [DataW.weightsEach, List.mem_append]
    exact .inl hn
  | a :: ts, b :: l, i + 1, h1, h2 => by
    simp at h1 h2
    rw [DataW.weightsEach, List.mem_append]
    exact .inr (weightsEach_mem hn h1 h2)
  | [], _, _, h1, _ => by simp at h1
  | _ :: _, [], _, _, h2 => by simp at h2

theorem mapM_get {α β : Type} {f : α → Option β} : ∀ {l : List α} {ys : List β}, l.mapM f = some ys → ∀ (i : Nat) (a : α), l[i]? = some a → ∃ y, ys[i]? = some y ∧ f a = some y
  | [], _, _, i, a, ha => by simp at ha
  | b :: l, ys, h, i, a, ha => by
    rw [List.mapM_cons] at h
    cases hb : f b with
    | none => rw [hb] at h; simp at h
    | some y =>
      rw [hb] at h
      cases hl : l.mapM f with
      | none => rw [hl] at h; simp at h
      | some zs =>
        rw [hl] at h
        simp at h
        subst h
        cases i with
        | zero => simp at ha; subst ha; exact ⟨y, rfl, hb⟩
        | succ i => simpa using mapM_get hl i a (by simpa using ha)

theorem trod_slice {t e : TypeId} {fuel : Nat} {cs : List Value} {x : DataW H × List MemPlace} (ht : P.underlying t = some (.slice e)) (h : DataW.trod enc P W 0 sp true (fuel + 1) t cs = some x) :
    cs = [.slice none 0 0] ∨ ∃ a len cap, cs = [.slice (some a) len cap] ∧ len ≤ cap ∧ cap ≤ maxLen ∧ (∃ m, (len + m) * P.bytesOf e ∈ x.1.weights P t) ∧ ∀ i, i < len → ∃ c y, W.cells? 0 (a.add (i * P.cellsOf e)) (P.cellsOf e) = some c ∧ DataW.trod enc P W 0 sp true fuel e c = some y ∧ ∀ n ∈ y.1.weights P e, n ∈ x.1.weights P t := by
  unfold DataW.trod at h
  rw [ht] at h
  split at h
  any_goals (first | (simp at *; done) | skip)
  rename_i e' a len cap he
  cases he
  simp only at h
  split at h
  · rename_i hc
    obtain ⟨ys, h2, h3⟩ := Option.bind_eq_some_iff.mp h
    obtain ⟨zs, _, rfl⟩ := Option.map_eq_some_iff.mp h3
    have hyl : ys.length = len := by simpa using mapM_some_length h2
    have hwt : ∀ n, n ∈ (DataW.slice (ys.map (·.1)) (zs.map (·.1))).weights P t ↔ n = ((ys.map (·.1)).length + (zs.map (·.1)).length) * P.bytesOf e ∨ n ∈ DataW.weightsAll P e (ys.map (·.1)) ∨ n ∈ DataW.weightsAll P e (zs.map (·.1)) := by
      intro n
      rw [DataW.weights, ht]
      simp only [List.mem_cons, List.mem_append]
    refine .inr ⟨a, len, cap, rfl, hc.2.1, hc.2.2, ⟨zs.length, (hwt _).2 (.inl (by simp [hyl]))⟩, fun i hi => ?_⟩
    obtain ⟨y, hys, hy⟩ := mapM_get h2 i i (by simp [hi])
    obtain ⟨c, hc, hy⟩ := Option.bind_eq_some_iff.mp hy
    exact ⟨c, y, hc, hy, fun n hn => (hwt n).2 (.inr (.inl (weightsAll_mem hn (List.mem_map.mpr ⟨y, List.mem_of_getElem? hys, rfl⟩))))⟩
  · cases h

theorem trod_struct {t : TypeId} {fs : Array Field} {fuel : Nat} {cs : List Value} {x : DataW H × List MemPlace} (ht : P.underlying t = some (.struct fs)) (h : DataW.trod enc P W 0 sp true (fuel + 1) t cs = some x) :
    cs.length = P.cellsOf t ∧ ∀ p ∈ fs.toList.map (fun f => (f.type, f.offset)), ∃ y, DataW.trod enc P W 0 sp true fuel p.1 ((cs.drop p.2).take (P.cellsOf p.1)) = some y ∧ ∀ n ∈ y.1.weights P p.1, n ∈ x.1.weights P t := by
  unfold DataW.trod at h
  rw [ht] at h
  simp only at h
  split at h
  · rename_i hl
    refine ⟨hl, fun p hp => ?_⟩
    obtain ⟨f, hf, rfl⟩ := List.mem_map.mp hp
    cases hm : fs.toList.mapM fun f => DataW.trod enc P W 0 sp true fuel f.type ((cs.drop f.offset).take (P.cellsOf f.type)) with
    | none => rw [hm] at h; simp at h
    | some ys =>
      rw [hm] at h
      simp at h
      subst h
      obtain ⟨i, hi⟩ := List.mem_iff_getElem?.mp hf
      obtain ⟨y, hy1, hy2⟩ := mapM_get hm i f hi
      refine ⟨y, hy2, fun n hn => ?_⟩
      rw [DataW.weights, ht]
      exact weightsEach_mem (i := i) hn (by rw [List.getElem?_map, hi]; rfl) (by rw [List.getElem?_map, hy1]; rfl)
  · simp at h

def SeenL (W : World) (l : List AV) (cs : List Value) : Prop := l.length = cs.length ∧ ∀ (j : Nat) (a : AV) (v : Value), l[j]? = some a → cs[j]? = some v → VR (cx0 W) a v

theorem choose_lt {α : Type} [Inhabited α] {n : Nat} {p : Nat → α → Prop} (h : ∀ i, i < n → ∃ x, p i x) : ∃ f : Nat → α, ∀ i, i < n → p i (f i) := by
  classical
  refine ⟨fun i => if hi : i < n then (h i hi).choose else default, fun i hi => ?_⟩
  simp only [hi, dif_pos]
  exact (h i hi).choose_spec

theorem flat_get {m : Nat} : ∀ {L : List (List AV)} (hm : ∀ x ∈ L, x.length = m) (j : Nat) (a : AV), L.flatten[j]? = some a → ∃ i k, i < L.length ∧ k < m ∧ j = i * m + k ∧ ∃ x, L[i]? = some x ∧ x[k]? = some a
  | [], _, j, a, h => by simp at h
  | x :: L, hm, j, a, h => by
    have hx := hm x (by simp)
    rw [List.flatten_cons] at h
    by_cases hj : j < x.length
    · rw [List.getElem?_append_left hj] at h
      exact ⟨0, j, by simp, by omega, by omega, x, rfl, h⟩
    · rw [List.getElem?_append_right (by omega)] at h
      obtain ⟨i, k, h1, h2, h3, y, h4, h5⟩ := flat_get (fun y hy => hm y (by simp [hy])) _ _ h
      refine ⟨i + 1, k, by simp; omega, h2, ?_, y, by simpa using h4, h5⟩
      rw [Nat.add_mul]; omega

theorem flat_len {m : Nat} : ∀ {L : List (List AV)} (hm : ∀ x ∈ L, x.length = m), L.flatten.length = L.length * m
  | [], _ => by simp
  | x :: L, hm => by
    rw [List.flatten_cons, List.length_append, hm x (by simp), flat_len (fun y hy => hm y (by simp [hy])), List.length_cons, Nat.add_mul]; omega

theorem imm_rows {m len cap : Nat} (hm : 0 < m) (a : Addr) (L : List (List AV)) (hL : L.length = len) (hcap : len ≤ cap) (hsz : ∀ x ∈ L, x.length = m) (hsc : ∀ x ∈ L.flatten, sc x = true)
    (h : ∀ i x, L[i]? = some x → ∃ c, W.cells? 0 (a.add (i * m)) m = some c ∧ SeenL W x c) : VR (cx0 W) (.imm m L) (.slice (some a) len cap) := by
  subst hL
  cases hL0 : L with
  | nil => exact .immE m _ _
  | cons x0 L0 =>
  rw [← hL0]
  have h0 := h 0 x0 (by rw [hL0]; rfl)
  obtain ⟨c0, hc0, _⟩ := h0
  obtain ⟨_, hcl0, hg0⟩ := World.cells?_some hc0
  have hcell0 : ∃ v, W.cell? a = some v := by
    have := hg0 0 hm
    rw [Nat.zero_mul] at this
    have e : (a.add 0).add 0 = a := rfl
    rw [e] at this
    rw [this]
    exact ⟨_, List.getElem?_eq_getElem (by omega)⟩
  obtain ⟨v0, hv0⟩ := hcell0
  have hsp : a.spot = none := by
    unfold World.cell? at hv0
    split at hv0
    · split at hv0
      · cases hv0
      · rename_i h; simpa using h
    · cases hv0
  have haddr : ∀ i k, ((a.add (i * m)).add k) = ⟨a.block, a.off + (i * m + k), none⟩ := by
    intro i k
    unfold Addr.add
    cases a
    simp at hsp
    subst hsp
    split <;> split <;> simp_all <;> omega
  have hfl := flat_len hsz
  have hcells : ∀ j a', L.flatten[j]? = some a' → ∃ v, W.cell? ⟨a.block, a.off + j, none⟩ = some v ∧ VR (cx0 W) a' v := by
    intro j a' hj
    obtain ⟨i, k, h1, h2, rfl, x, h4, h5⟩ := flat_get hsz j a' hj
    obtain ⟨c, hc, hs1, hs2⟩ := h i x h4
    obtain ⟨_, hcl, hg⟩ := World.cells?_some hc
    have hk := hg k h2
    rw [haddr] at hk
    have hck : c[k]? = some (c[k]'(by omega)) := List.getElem?_eq_getElem (by omega)
    rw [hck] at hk
    exact ⟨_, hk, hs2 k a' _ h5 hck⟩
  obtain ⟨f, hf⟩ := choose_lt (α := Value) (n := L.flatten.length) (p := fun j v => W.cell? ⟨a.block, a.off + j, none⟩ = some v ∧ ∀ a', L.flatten[j]? = some a' → VR (cx0 W) a' v) (fun j hj => by
    obtain ⟨v, h1, h2⟩ := hcells j _ (List.getElem?_eq_getElem hj)
    exact ⟨v, h1, fun a' ha => by rw [List.getElem?_eq_getElem hj] at ha; cases ha; exact h2⟩)
  exact VR.imm (c := cx0 W) m L a cap f hcap hsz hsc (cx0_O W _) (lt_of_cell hv0) hsp (fun j hj => (hf j hj).1) (fun j x hx => (hf j (getElem?_lt hx)).2 x hx)

mutual
def wfO : Ob → Prop
  | .mk k n f s l d => inI64 k ∧ inI64 n ∧ inI64 f ∧ s.length ≤ 140737488351232 ∧ l.length ≤ 140737488351232 ∧ d.length ≤ 140737488351232 ∧ wfOs l ∧ wfDs d
def wfOs : List Ob → Prop
  | [] => True
  | o :: r => wfO o ∧ wfOs r
def wfDs : List (List UInt8 × Ob) → Prop
  | [] => True
  | e :: r => wfE e ∧ wfDs r
def wfE : List UInt8 × Ob → Prop
  | (key, o) => key.length ≤ 140737488351232 ∧ wfO o
end

theorem wfOs_iff {l : List Ob} : wfOs l ↔ ∀ o ∈ l, wfO o := by
  induction l with
  | nil => simp [wfOs]
  | cons o l ih => simp [wfOs, ih]
theorem wfDs_iff {l : List (List UInt8 × Ob)} : wfDs l ↔ ∀ e ∈ l, e.1.length ≤ 140737488351232 ∧ wfO e.2 := by
  induction l with
  | nil => simp [wfDs]
  | cons e l ih => obtain ⟨a, o⟩ := e; simp [wfDs, wfE, ih]

instance : Inhabited Ob := ⟨.mk 0 0 0 [] [] []⟩

theorem seen_cons {W : World} {a : AV} {l : List AV} {v : Value} {cs : List Value} (h1 : VR (cx0 W) a v) (h2 : SeenL W l cs) : SeenL W (a :: l) (v :: cs) := by
  refine ⟨by simp [h2.1], fun j x u hx hu => ?_⟩
  cases j with
  | zero => simp at hx hu; subst hx hu; exact h1
  | succ j => exact h2.2 j x u (by simpa using hx) (by simpa using hu)
theorem seen_nil {W : World} : SeenL W [] [] := ⟨rfl, fun j x u hx _ => by simp at hx⟩

variable {tI tF tS tL tD tO tE : TypeId}

theorem trod_obj (T : ObT P tI tF tS tL tD tO tE) : ∀ (N fuel : Nat), fuel < N → ∀ (cs : List Value) (x : DataW H × List MemPlace), DataW.trod enc P W 0 sp true fuel tO cs = some x → (∀ n ∈ x.1.weights P tO, n ≤ 140737488351232) → ∃ o, SeenL W (obC o) cs ∧ wfO o
  | 0, fuel, h, _, _, _, _ => by omega
  | N + 1, 0, _, cs, x, h, _ => by simp [DataW.trod] at h
  | N + 1, 1, _, cs, x, h, _ => by
    obtain ⟨fs, hO, hfs⟩ := T.hO
    obtain ⟨_, hp⟩ := trod_struct hO h
    rw [hfs] at hp
    obtain ⟨y, hy, _⟩ := hp (tI, 0) (by simp)
    simp [DataW.trod] at hy
  | N + 1, fuel + 2, hN, cs, x, h, hwt => by
    obtain ⟨fs, hO, hfs⟩ := T.hO
    obtain ⟨hl, hp⟩ := trod_struct hO h
    rw [hfs] at hp
    rw [T.cO] at hl
    match cs, hl with
    | [v0, v1, v2, v3, v4, v5], _ =>
    obtain ⟨y0, h0, m0⟩ := hp (tI, 0) (by simp)
    obtain ⟨y1, h1, m1⟩ := hp (tI, 1) (by simp)
    obtain ⟨y2, h2, m2⟩ := hp (tF, 2) (by simp)
    obtain ⟨y3, h3, m3⟩ := hp (tS, 3) (by simp)
    obtain ⟨y4, h4, m4⟩ := hp (tL, 4) (by simp)
    obtain ⟨y5, h5, m5⟩ := hp (tD, 5) (by simp)
    simp only [T.cI, T.cF, T.cS, T.cL, T.cD] at h0 h1 h2 h3 h4 h5
    have m3 := fun n hn => hwt n (m3 n hn)
    have m4 := fun n hn => hwt n (m4 n hn)
    have m5 := fun n hn => hwt n (m5 n hn)
    obtain ⟨n0, e0, w0⟩ := trod_i64 T.hI h0
    obtain ⟨n1, e1, w1⟩ := trod_i64 T.hI h1
    obtain ⟨n2, e2, w2⟩ := trod_i64 T.hF h2
    obtain ⟨s, e3, w3⟩ := trod_str T.hS h3
    simp at e0 e1 e2 e3
    subst e0 e1 e2 e3
    -- the objects
    have w3 := m3 _ w3
    have hLs : ∃ l : List Ob, VR (cx0 W) (.imm 6 (obL l)) v4 ∧ l.length ≤ 140737488351232 ∧ wfOs l := by
      rcases trod_slice T.hL h4 with e4 | ⟨a, len, cap, e4, hc1, hc2, ⟨mm, hmm⟩, hel⟩
      · simp at e4
        subst e4
        exact ⟨[], .immE 6 none 0, by simp, by simp [wfOs]⟩
      · simp at e4
        subst e4
        have hel2 : ∀ i, i < len → ∃ o : Ob, (∃ c, W.cells? 0 (a.add (i * 6)) 6 = some c ∧ SeenL W (obC o) c) ∧ wfO o := by
          intro i hi
          obtain ⟨c, y, hc, hy, hwy⟩ := hel i hi
          rw [T.cO] at hc
          obtain ⟨o, ho, hw⟩ := trod_obj T N fuel (by omega) c y hy (fun n hn => m4 n (hwy n hn))
          exact ⟨o, ⟨c, hc, ho⟩, hw⟩
        obtain ⟨f, hf⟩ := choose_lt hel2
        refine ⟨(List.range len).map f, ?_, by simp; have h1 := m4 _ hmm; have h2 := Nat.mul_le_mul_left (len + mm) T.bO; omega, wfOs_iff.2 ?_⟩
        · refine imm_rows (by decide) a _ (by rw [obL_map]; simp) hc1 ?_ ?_ ?_
          · intro x hx
            rw [obL_map] at hx
            obtain ⟨o, _, rfl⟩ := List.mem_map.mp hx
            cases o; rfl
          · intro x hx
            obtain ⟨z, hz, hx⟩ := List.mem_flatten.mp hx
            rw [obL_map] at hz
            obtain ⟨o, _, rfl⟩ := List.mem_map.mp hz
            exact obC_sc o x hx
          · intro i x hx
            rw [obL_map, List.getElem?_map, List.getElem?_map] at hx
            have hi : i < len := by
              rcases Nat.lt_or_ge i len with h | h
              · exact h
              · rw [List.getElem?_eq_none (by simpa using h)] at hx; simp at hx
            rw [List.getElem?_range hi] at hx
            simp at hx
            subst hx
            exact (hf i hi).1
        · intro o ho
          obtain ⟨i, hi, rfl⟩ := List.mem_map.mp ho
          exact (hf i (by simpa using hi)).2
    have hDs : ∃ d : List (List UInt8 × Ob), VR (cx0 W) (.imm 7 (obD d)) v5 ∧ d.length ≤ 140737488351232 ∧ wfDs d := by
      rcases trod_slice T.hD h5 with e4 | ⟨a, len, cap, e4, hc1, hc2, ⟨mm, hmm⟩, hel⟩
      · simp at e4
        subst e4
        exact ⟨[], .immE 7 none 0, by simp, by simp [wfDs]⟩
      · simp at e4
        subst e4
        have hel2 : ∀ i, i < len → ∃ e : List UInt8 × Ob, (∃ c, W.cells? 0 (a.add (i * 7)) 7 = some c ∧ SeenL W (obE e) c) ∧ (e.1.length ≤ 140737488351232 ∧ wfO e.2) := by
          intro i hi
          obtain ⟨c, y, hc, hy, hwy⟩ := hel i hi
          rw [T.cE] at hc
          obtain ⟨gs, hE, hgs⟩ := T.hE
          cases fuel with
          | zero => simp [DataW.trod] at hy
          | succ fuel =>
          obtain ⟨hcl, hq⟩ := trod_struct hE hy
          rw [hgs] at hq
          rw [T.cE] at hcl
          match c, hcl with
          | [u0, u1, u2, u3, u4, u5, u6], _ =>
          obtain ⟨z0, g0, r0⟩ := hq (tS, 0) (by simp)
          obtain ⟨z1, g1, r1⟩ := hq (tO, 1) (by simp)
          simp only [T.cS, T.cO] at g0 g1
          obtain ⟨key, q0, qw⟩ := trod_str T.hS g0
          simp at q0
          subst q0
          have qw := m5 _ (hwy _ (r0 _ qw))
          obtain ⟨o, ho, hw⟩ := trod_obj T N fuel (by omega) _ z1 g1 (fun n hn => m5 n (hwy n (r1 n hn)))
          refine ⟨(key.data.toList, o), ⟨_, hc, ?_⟩, ?_, hw⟩
          · exact seen_cons (.str _ _ rfl) ho
          · exact qw
        obtain ⟨f, hf⟩ := choose_lt hel2
        refine ⟨(List.range len).map f, ?_, by simp; have h1 := m5 _ hmm; have h2 := Nat.mul_le_mul_left (len + mm) T.bE; omega, wfDs_iff.2 ?_⟩
        · refine imm_rows (by decide) a _ (by rw [obD_map]; simp) hc1 ?_ ?_ ?_
          · intro x hx
            rw [obD_map] at hx
            obtain ⟨⟨key, o⟩, _, rfl⟩ := List.mem_map.mp hx
            cases o; rfl
          · intro x hx
            obtain ⟨z, hz, hx⟩ := List.mem_flatten.mp hx
            rw [obD_map] at hz
            obtain ⟨⟨key, o⟩, _, rfl⟩ := List.mem_map.mp hz
            rcases List.mem_cons.mp hx with rfl | hx
            · rfl
            · exact obC_sc o x hx
          · intro i x hx
            rw [obD_map, List.getElem?_map, List.getElem?_map] at hx
            have hi : i < len := by
              rcases Nat.lt_or_ge i len with h | h
              · exact h
              · rw [List.getElem?_eq_none (by simpa using h)] at hx; simp at hx
            rw [List.getElem?_range hi] at hx
            simp at hx
            subst hx
            exact (hf i hi).1
        · intro e he
          obtain ⟨i, hi, rfl⟩ := List.mem_map.mp he
          exact (hf i (by simpa using hi)).2
    obtain ⟨l, hl1, hl2, hl3⟩ := hLs
    obtain ⟨d, hd1, hd2, hd3⟩ := hDs
    refine ⟨.mk n0 n1 n2 s.data.toList l d, ?_, ?_⟩
    · exact seen_cons (.int _ _ w0) (seen_cons (.int _ _ w1) (seen_cons (.int _ _ w2) (seen_cons (.str _ _ rfl) (seen_cons hl1 (seen_cons hd1 seen_nil)))))
    · unfold wfO
      exact ⟨IK_i64.1 w0, IK_i64.1 w1, IK_i64.1 w2, w3, hl2, hd2, hl3, hd3⟩

theorem open_obj (T : ObT P tI tF tS tL tD tO tE) {v : Value} {d : DataW H} {ps : List MemPlace} (hd : DataW.Trod enc P W 0 sp true tO v d ps) (hwt : ∀ n ∈ d.weights P tO, n ≤ 140737488351232) : ∃ o : Ob, VR (cx0 W) (.agg (obC o)) v ∧ wfO o := by
  obtain ⟨fuel, hf⟩ := hd
  obtain ⟨o, ⟨h1, h2⟩, hw⟩ := trod_obj T (fuel + 1) fuel (by omega) _ _ hf hwt
  have h6 : (obC o).length = 6 := by cases o; rfl
  cases v with
  | agg cs => exact ⟨o, .agg _ cs (obC_sc o) (by simpa [Value.cells] using h1) (fun j x u hx hu => h2 j x u hx (by simpa [Value.cells] using hu)), hw⟩
  | _ => simp [Value.cells] at h1; omega
end
end Ink.D

namespace Ink.D
open Go Go.Proofs
set_option maxRecDepth 100000
variable {E : Env} (hE : E.P = Tryz.prog)

mutual
def fewO : Ob → Int → Int → Int
  | .mk _ _ _ s l d, left, deep => if deep > 200 then -1 else fewD d (fewL l (left - 1 - s.length) (deep + 1)) (deep + 1)
def fewL : List Ob → Int → Int → Int
  | [], left, _ => left
  | o :: r, left, deep => if 0 ≤ left then fewL r (fewO o left deep) deep else left
def fewD : List (List UInt8 × Ob) → Int → Int → Int
  | [], left, _ => left
  | e :: r, left, deep => if 0 ≤ left then fewD r (fewE e left deep) deep else left
def fewE : List UInt8 × Ob → Int → Int → Int
  | (key, o), left, deep => fewO o (left - key.length) deep
end

theorem fewE_eq (e : List UInt8 × Ob) (left deep : Int) : fewE e left deep = fewO e.2 (left - e.1.length) deep := by obtain ⟨a, o⟩ := e; rfl

theorem fewL_neg {l : List Ob} {left deep : Int} (h : left < 0) : fewL l left deep = left := by
  cases l with
  | nil => simp [fewL]
  | cons o r => unfold fewL; rw [if_neg (by omega)]
theorem fewD_neg {l : List (List UInt8 × Ob)} {left deep : Int} (h : left < 0) : fewD l left deep = left := by
  cases l with
  | nil => simp [fewD]
  | cons o r => unfold fewD; rw [if_neg (by omega)]

theorem few_le : ∀ (N : Nat) (o : Ob) (left deep : Int), sizeOf o < N → fewO o left deep ≤ left ∨ fewO o left deep ≤ -1
  | 0, _, _, _, h => by omega
  | N + 1, .mk k n f s l d, left, deep, h => by
    have hL : ∀ (l : List Ob), sizeOf l < N + 1 → ∀ left deep, fewL l left deep ≤ left ∨ fewL l left deep ≤ -1 := by
      intro l
      induction l with
      | nil => intro _ left deep; left; simp [fewL]
      | cons o r ih =>
        intro hs left deep
        simp at hs
        unfold fewL
        split
        · have h1 := few_le N o left deep (by omega)
          have h2 := ih (by omega) (fewO o left deep) deep
          omega
        · left; omega
    have hD : ∀ (l : List (List UInt8 × Ob)), sizeOf l < N + 1 → ∀ left deep, fewD l left deep ≤ left ∨ fewD l left deep ≤ -1 := by
      intro l
      induction l with
      | nil => intro _ left deep; left; simp [fewD]
      | cons e r ih =>
        intro hs left deep
        obtain ⟨a, o⟩ := e
        simp at hs
        unfold fewD
        split
        · have h1 := few_le N o (left - a.length) deep (by omega)
          have h2 := ih (by omega) (fewE (a, o) left deep) deep
          have e : fewE (a, o) left deep = fewO o (left - a.length) deep := rfl
          omega
        · left; omega
    simp at h
    unfold fewO
    split
    · right; omega
    · have h1 := hL l (by omega) (left - 1 - s.length) (deep + 1)
      have h2 := hD d (by omega) (fewL l (left - 1 - s.length) (deep + 1)) (deep + 1)
      omega

theorem few_up (o : Ob) {left deep : Int} (h : left ≤ 100000) : fewO o left deep ≤ 100000 := by
  have := few_le _ o left deep (Nat.lt_succ_self _)
  omega

include hE
set_option maxHeartbeats 1000000 in
theorem few61 : ∀ (N : Nat) (o : Ob), sizeOf o < N → wfO o → ∀ (left deep : Int), -140737488355328 ≤ left → left ≤ 100000 → 0 ≤ deep → deep ≤ 300 → PCalls E 51 [.agg (obC o), .int .i64 left, .int .i64 deep] (· = .int .i64 (fewO o left deep))
  | 0, _, h, _, _, _, _, _, _, _ => by omega
  | N + 1, .mk k n f s l_ d, hN, hw, left, deep, hl0, hl1, hd0, hd1 => by
    unfold wfO at hw
    obtain ⟨_, _, _, hs, hll, hdl, hwl, hwd⟩ := hw
    rw [wfOs_iff] at hwl
    rw [wfDs_iff] at hwd
    have hl := obL_len l_
    have hl2 := obD_length d
    have ihl : ∀ (x : Nat) (h : x < l_.length) (left : Int), 0 ≤ left → left ≤ 100000 → deep ≤ 200 → PCalls E 51 [.agg (obC l_[x]), .int .i64 left, .int .i64 (deep + 1)] (· = .int .i64 (fewO l_[x] left (deep + 1))) := fun x h left a b c => by
      have h1 := List.sizeOf_lt_of_mem (List.getElem_mem h)
      exact few61 N _ (by simp at hN; omega) (hwl _ (List.getElem_mem h)) left (deep + 1) (by omega) b (by omega) (by omega)
    have ihd : ∀ (x : Nat) (h : x < d.length) (left : Int), 0 ≤ left → left ≤ 100000 → deep ≤ 200 → PCalls E 51 [.agg (obC d[x].2), .int .i64 (left - (d[x].1.length : Int)), .int .i64 (deep + 1)] (· = .int .i64 (fewO d[x].2 (left - (d[x].1.length : Int)) (deep + 1))) := fun x h left a b c => by
      have h1 := List.sizeOf_lt_of_mem (List.getElem_mem h)
      have h3 : sizeOf d[x].2 < sizeOf d[x] := by generalize d[x] = e; obtain ⟨a, o⟩ := e; simp; omega
      have h4 := hwd _ (List.getElem_mem h)
      exact few61 N _ (by simp at hN; omega) h4.2 _ (deep + 1) (by omega) (by omega) (by omega) (by omega)
    have hkey : ∀ (x : Nat) (h : x < d.length), d[x].1.length ≤ 140737488351232 := fun x h => (hwd _ (List.getElem_mem h)).1
    have hD : ∀ n0, hbLL n0 (obD d) = true := fun n0 => obD_hb d
    have hL : ∀ n0, hbLL n0 (obL l_) = true := fun n0 => obL_hb l_
    refine p51 hE (fun l => ?_) (by simp [hbL, hb, obC_hb])
    unfold obC
    have e0 : fewO (.mk k n f s l_ d) left deep = if deep > 200 then -1 else fewD d (fewL l_ (left - 1 - s.length) (deep + 1)) (deep + 1) := by simp [fewO]
    rw [e0]
    by_cases hdp : deep > 200
    · rw [if_pos hdp]
      conv => whnf
      repeat' (first
        | (refine And.intro W1 ?_; conv => whnf)
        | (refine brD (fun _ => ?_) (fun _ => ?_) <;> first | (exfalso; omega) | (conv => whnf))
        | (refine brB (fun _ => ?_) (fun _ => ?_) <;> conv => whnf))
      exact RetG.drop rfl rfl rfl ⟨rfl, rfl, rfl⟩
    · rw [if_neg hdp]
      generalize hR : fewL l_ (left - 1 - s.length) (deep + 1) = R1
      have hR0 : left - 1 - (s.length : Int) ≤ 100000 := by omega
      conv => whnf
      repeat' (first
        | (refine And.intro W1 ?_; conv => whnf)
        | (refine brD (fun _ => ?_) (fun _ => ?_) <;> first | (exfalso; omega) | (conv => whnf))
        | (refine brB (fun _ => ?_) (fun _ => ?_) <;> conv => whnf))
      refine LoopG.s (fun x : Nat × Int => x.1 ≤ l_.length ∧ x.2 ≤ 100000 ∧ fewL (l_.drop x.1) x.2 (deep + 1) = R1) 67 (fun x => [(1, .int .i64 x.2), (2, .int .i64 deep), (3, .ptr 1 0 0), (7, .int .i64 x.1)]) (fun _ => [⟨0, true, .frame l⟩, ⟨0, true, .cells 26 [.int .i64 k, .int .i64 n, .int .i64 f, .str s, .imm 6 (obL l_), .imm 7 (obD d)]⟩]) (fun x => l_.length - x.1) (0, left - 1 - s.length) ⟨by simp, hR0, by simpa using hR⟩ rfl ⟨rfl, rfl, rfl, rfl⟩ rfl ?_
      clear hR
      rintro ⟨x, lf⟩ ⟨i1, i2, i3⟩
      simp only at i1 i2 i3
      by_cases hx : x < l_.length ∧ 0 ≤ lf
      · obtain ⟨hx, hlf⟩ := hx
        have hg := obL_at hx
        have hC := ihl x hx lf hlf i2 (by omega)
        have hup := few_up l_[x] (left := lf) (deep := deep + 1) i2
        rw [List.drop_eq_getElem_cons hx] at i3
        unfold fewL at i3
        rw [if_pos hlf] at i3
        have hcs : ∃ c0 c1 c2 c3 c4 c5, obC l_[x] = [c0, c1, c2, c3, c4, c5] := by cases l_[x]; exact ⟨_, _, _, _, _, _, rfl⟩
        obtain ⟨c0, c1, c2, c3, c4, c5, hc⟩ := hcs
        rw [hc] at hg hC
        generalize fewO l_[x] lf (deep + 1) = q at *
        conv => whnf
        repeat' (first
          | (rw [hg]; conv => whnf)
          | (refine And.intro W1 ?_; conv => whnf)
          | (refine brD (fun _ => ?_) (fun _ => ?_) <;> first | (exfalso; omega) | (conv => whnf))
          | (refine brB (fun _ => ?_) (fun _ => ?_) <;> conv => whnf)
          | ((first | refine CallG.e hC ?_ | refine CallD.e hC ?_ | refine CallQ.e hC ?_ | refine CallP.e hC ?_); conv => whnf))
        exact ⟨(x + 1, q), ⟨⟨by simp only; omega, by simp only; omega, i3⟩, by simp only; omega⟩, Wk.slots rfl ⟨rfl, rfl, rfl, rfl⟩⟩
      · have hfin : R1 = lf := by
          rcases Nat.lt_or_ge x l_.length with h | h
          · rw [← i3]; exact fewL_neg (by omega)
          · rw [← i3, List.drop_eq_nil_of_le h]; simp [fewL]
        subst hfin
        clear i3
        generalize hR2 : fewD d R1 (deep + 1) = R2
        conv => whnf
        repeat' (first
          | (refine And.intro W1 ?_; conv => whnf)
          | (refine brD (fun _ => ?_) (fun _ => ?_) <;> first | (exfalso; omega) | (conv => whnf))
          | (refine brB (fun _ => ?_) (fun _ => ?_) <;> conv => whnf))
        · refine LoopG.s (fun x : Nat × Int => x.1 ≤ d.length ∧ x.2 ≤ 100000 ∧ fewD (d.drop x.1) x.2 (deep + 1) = R2) 67 (fun x => [(1, .int .i64 x.2), (2, .int .i64 deep), (3, .ptr 1 0 0), (8, .int .i64 x.1)]) (fun _ => [⟨0, true, .frame l⟩, ⟨0, true, .cells 26 [.int .i64 k, .int .i64 n, .int .i64 f, .str s, .imm 6 (obL l_), .imm 7 (obD d)]⟩]) (fun x => d.length - x.1) (0, R1) ⟨by simp, i2, by simpa using hR2⟩ rfl ⟨rfl, rfl, rfl, rfl⟩ rfl ?_
          clear hR2
          rintro ⟨y, lg⟩ ⟨j1, j2, j3⟩
          simp only at j1 j2 j3
          by_cases hy : y < d.length ∧ 0 ≤ lg
          · obtain ⟨hy, hlg⟩ := hy
            have hg := obD_get hy
            have hC := ihd y hy lg hlg j2 (by omega)
            have hky := hkey y hy
            have hup := few_up d[y].2 (left := lg - (d[y].1.length : Int)) (deep := deep + 1) (by omega)
            rw [List.drop_eq_getElem_cons hy] at j3
            unfold fewD at j3
            rw [if_pos hlg, fewE_eq] at j3
            rw [obE_eq] at hg
            generalize d[y].1 = key at *
            generalize d[y].2 = v at *
            have hcs : ∃ c0 c1 c2 c3 c4 c5, obC v = [c0, c1, c2, c3, c4, c5] := by cases v; exact ⟨_, _, _, _, _, _, rfl⟩
            obtain ⟨c0, c1, c2, c3, c4, c5, hc⟩ := hcs
            rw [hc] at hg hC
            generalize fewO v (lg - (key.length : Int)) (deep + 1) = q at *
            conv => whnf
            repeat' (first
              | (rw [hg]; conv => whnf)
              | (refine And.intro W1 ?_; conv => whnf)
              | (refine brD (fun _ => ?_) (fun _ => ?_) <;> first | (exfalso; omega) | (conv => whnf))
              | (refine brB (fun _ => ?_) (fun _ => ?_) <;> conv => whnf)
              | ((first | refine CallG.e hC ?_ | refine CallD.e hC ?_ | refine CallQ.e hC ?_ | refine CallP.e hC ?_); conv => whnf))
            exact ⟨(y + 1, q), ⟨⟨by simp only; omega, by simp only; omega, j3⟩, by simp only; omega⟩, Wk.slots rfl ⟨rfl, rfl, rfl, rfl⟩⟩
          · have hfin : R2 = lg := by
              rcases Nat.lt_or_ge y d.length with h | h
              · rw [← j3]; exact fewD_neg (by omega)
              · rw [← j3, List.drop_eq_nil_of_le h]; simp [fewD]
            subst hfin
            conv => whnf
            repeat' (first
              | (refine And.intro W1 ?_; conv => whnf)
              | (refine brD (fun _ => ?_) (fun _ => ?_) <;> first | (exfalso; omega) | (conv => whnf))
              | (refine brB (fun _ => ?_) (fun _ => ?_) <;> conv => whnf))
            all_goals exact RetG.drop rfl rfl rfl ⟨rfl, rfl, rfl⟩
        · refine LoopG.s (fun x : Nat × Int => x.1 ≤ d.length ∧ x.2 ≤ 100000 ∧ fewD (d.drop x.1) x.2 (deep + 1) = R2) 67 (fun x => [(1, .int .i64 x.2), (2, .int .i64 deep), (3, .ptr 1 0 0), (8, .int .i64 x.1)]) (fun _ => [⟨0, true, .frame l⟩, ⟨0, true, .cells 26 [.int .i64 k, .int .i64 n, .int .i64 f, .str s, .imm 6 (obL l_), .imm 7 (obD d)]⟩]) (fun x => d.length - x.1) (0, R1) ⟨by simp, i2, by simpa using hR2⟩ rfl ⟨rfl, rfl, rfl, rfl⟩ rfl ?_
          clear hR2
          rintro ⟨y, lg⟩ ⟨j1, j2, j3⟩
          simp only at j1 j2 j3
          by_cases hy : y < d.length ∧ 0 ≤ lg
          · obtain ⟨hy, hlg⟩ := hy
            have hg := obD_get hy
            have hC := ihd y hy lg hlg j2 (by omega)
            have hky := hkey y hy
            have hup := few_up d[y].2 (left := lg - (d[y].1.length : Int)) (deep := deep + 1) (by omega)
            rw [List.drop_eq_getElem_cons hy] at j3
            unfold fewD at j3
            rw [if_pos hlg, fewE_eq] at j3
            rw [obE_eq] at hg
            generalize d[y].1 = key at *
            generalize d[y].2 = v at *
            have hcs : ∃ c0 c1 c2 c3 c4 c5, obC v = [c0, c1, c2, c3, c4, c5] := by cases v; exact ⟨_, _, _, _, _, _, rfl⟩
            obtain ⟨c0, c1, c2, c3, c4, c5, hc⟩ := hcs
            rw [hc] at hg hC
            generalize fewO v (lg - (key.length : Int)) (deep + 1) = q at *
            conv => whnf
            repeat' (first
              | (rw [hg]; conv => whnf)
              | (refine And.intro W1 ?_; conv => whnf)
              | (refine brD (fun _ => ?_) (fun _ => ?_) <;> first | (exfalso; omega) | (conv => whnf))
              | (refine brB (fun _ => ?_) (fun _ => ?_) <;> conv => whnf)
              | ((first | refine CallG.e hC ?_ | refine CallD.e hC ?_ | refine CallQ.e hC ?_ | refine CallP.e hC ?_); conv => whnf))
            exact ⟨(y + 1, q), ⟨⟨by simp only; omega, by simp only; omega, j3⟩, by simp only; omega⟩, Wk.slots rfl ⟨rfl, rfl, rfl, rfl⟩⟩
          · have hfin : R2 = lg := by
              rcases Nat.lt_or_ge y d.length with h | h
              · rw [← j3]; exact fewD_neg (by omega)
              · rw [← j3, List.drop_eq_nil_of_le h]; simp [fewD]
            subst hfin
            conv => whnf
            repeat' (first
              | (refine And.intro W1 ?_; conv => whnf)
              | (refine brD (fun _ => ?_) (fun _ => ?_) <;> first | (exfalso; omega) | (conv => whnf))
              | (refine brB (fun _ => ?_) (fun _ => ?_) <;> conv => whnf))
            all_goals exact RetG.drop rfl rfl rfl ⟨rfl, rfl, rfl⟩

theorem few37 (o : Ob) (hw : wfO o) (most : Int) (h0 : 0 ≤ most) (h1 : most ≤ 100000) : PCalls E 18 [.agg (obC o), .int .i64 most] (· = .bool (decide (0 ≤ fewO o most 0))) := by
  have h := few61 hE _ o (Nat.lt_succ_self _) hw most 0 (by omega) h1 (by omega) (by omega)
  refine p18 hE (fun l => ?_) (by simp [hbL, hb, obC_hb])
  cases o with
  | mk k n f s l_ d =>
    unfold obC at h ⊢
    generalize fewO (.mk k n f s l_ d) most 0 = q at *
    conv => whnf
    repeat' (first
      | (refine And.intro W1 ?_; conv => whnf)
      | (refine brD (fun _ => ?_) (fun _ => ?_) <;> first | (exfalso; omega) | (conv => whnf))
      | (refine brB (fun _ => ?_) (fun _ => ?_) <;> conv => whnf)
      | ((first | refine CallG.e h ?_ | refine CallD.e h ?_ | refine CallQ.e h ?_ | refine CallP.e h ?_); conv => whnf))
    exact RetG.drop rfl rfl rfl ⟨rfl, rfl, rfl⟩

end Ink.D
