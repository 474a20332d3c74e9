import Derived.Test.YtogcalejbddjjaaGreatDoorInkB
import Derived.ScopeJumps
set_option linter.all false
namespace Ink
open Go

section
variable {E : Env} {n0 : List Blk} {c0 c : Cx} {s : St} {a : Act}

/-! what stands ahead of an operation -/
def innerF (acc : Array Nat) (s : Nat) (e : Edge) : Nat := if Region.binds .any e then s ||| 2 ^ e.on ||| acc.getD e.on 0 else s

theorem inner_bit (acc : Array Nat) (j : Nat) : ∀ (l : List Edge) (s : Nat), (l.foldl (innerF acc) s).testBit j = true → s.testBit j = true ∨ ∃ e ∈ l, Region.binds .any e = true ∧ (e.on = j ∨ (acc.getD e.on 0).testBit j = true)
  | [], s, h => .inl h
  | e :: l, s, h => by
    simp only [List.foldl_cons] at h
    rcases inner_bit acc j l _ h with h1 | ⟨e', he, h1⟩
    · unfold innerF at h1
      split at h1
      · rename_i hb
        simp only [Nat.testBit_or, Bool.or_eq_true, Nat.testBit_two_pow, decide_eq_true_eq] at h1
        rcases h1 with (h1 | h1) | h1
        · exact .inl h1
        · exact .inr ⟨e, by simp, hb, .inl h1⟩
        · exact .inr ⟨e, by simp, hb, .inr h1⟩
      · exact .inl h1
    · exact .inr ⟨e', by simp [he], h1⟩

def outerF (acc : Array Nat) (o : Oper) : Array Nat := acc.push (o.after.toList.foldl (innerF acc) 0)

theorem before_eq (ops : Array Oper) : Region.before ops = ops.toList.foldl outerF #[] := by
  unfold Region.before
  rw [← Array.foldl_toList]
  congr 1
  funext acc o
  unfold outerF
  rw [← Array.foldl_toList]
  rfl

/-- what a table of what stands ahead says -/
def Tab (ops : List Oper) (acc : Array Nat) : Prop :=
  ∀ (k : Nat) (j : Nat), k < acc.size → (acc.getD k 0).testBit j = true → ∃ o e, ops[k]? = some o ∧ e ∈ o.after ∧ Region.binds .any e = true ∧ (e.on = j ∨ (e.on < k ∧ (acc.getD e.on 0).testBit j = true))

theorem tab_fold : ∀ (r pre : List Oper) (acc : Array Nat), acc.size = pre.length → Tab (pre ++ r) acc → Tab (pre ++ r) (r.foldl outerF acc) ∧ (r.foldl outerF acc).size = (pre ++ r).length
  | [], pre, acc, hs, h => ⟨h, by simpa using hs⟩
  | o :: r, pre, acc, hs, h => by
    have e : pre ++ o :: r = (pre ++ [o]) ++ r := by simp
    rw [e] at h ⊢
    simp only [List.foldl_cons]
    refine tab_fold r (pre ++ [o]) (outerF acc o) (by simp [outerF, hs]) ?_
    intro k j hk hj
    unfold outerF at hk hj ⊢
    simp only [Array.size_push] at hk
    by_cases hlt : k < acc.size
    · have hget : (acc.push (o.after.toList.foldl (innerF acc) 0)).getD k 0 = acc.getD k 0 := by
        simp [Array.getD_eq_getD_getElem?, Array.getElem?_push_lt hlt, hlt]
      rw [hget] at hj
      obtain ⟨o', e', h1, h2, h3, h4⟩ := h k j hlt hj
      refine ⟨o', e', h1, h2, h3, h4.imp id (fun ⟨h5, h6⟩ => ⟨h5, ?_⟩)⟩
      have : e'.on < acc.size := by omega
      simp only [Array.getD_eq_getD_getElem?, Array.getElem?_push_lt this] at h6 ⊢
      simpa [this] using h6
    · have hke : k = acc.size := by omega
      subst hke
      have hget : (acc.push (o.after.toList.foldl (innerF acc) 0)).getD acc.size 0 = o.after.toList.foldl (innerF acc) 0 := by simp [Array.getD_eq_getD_getElem?]
      rw [hget] at hj
      rcases inner_bit acc j _ _ hj with h0 | ⟨e', h1, h2, h3⟩
      · simp at h0
      · refine ⟨o, e', ?_, by simpa using h1, h2, h3.imp id (fun h4 => ?_)⟩
        · rw [hs, List.append_assoc, List.getElem?_append_right (Nat.le_refl _)]; simp
        · have : e'.on < acc.size := by
            rcases Nat.lt_or_ge e'.on acc.size with h' | h'
            · exact h'
            · simp [Array.getD_eq_getD_getElem?, Array.getElem?_eq_none h'] at h4
          refine ⟨this, ?_⟩
          simp only [Array.getD_eq_getD_getElem?, Array.getElem?_push_lt this] at h4 ⊢
          simpa [this] using h4

theorem tab_before (ops : Array Oper) : Tab ops.toList (Region.before ops) ∧ (Region.before ops).size = ops.size := by
  have := tab_fold ops.toList [] #[] rfl (by intro k j hk; simp at hk)
  rw [before_eq]
  simpa using this

/-- what has been run is shut under what stands ahead -/
def Shut (ops : Array Oper) (listed : Array Bool) : Prop :=
  ∀ (k : Nat) (o : Oper), listed.getD k false = true → ops[k]? = some o → ∀ e ∈ o.after, Region.binds .any e = true → listed.getD e.on false = true

theorem ahead_listed {ops : Array Oper} {listed : Array Bool} (hc : Shut ops listed) : ∀ (n k j : Nat), k < n → (o : Oper) → ops[k]? = some o → ((Region.before ops).getD k 0).testBit j = true →
    (∀ e ∈ o.after, Region.binds .any e = true → listed.getD e.on false = true) → listed.getD j false = true
  | 0, _, _, h, _, _, _, _ => absurd h (Nat.not_lt_zero _)
  | n + 1, k, j, hk, o, ho, hb, hr => by
    obtain ⟨ht, hs⟩ := tab_before ops
    have hks : k < (Region.before ops).size := by
      rw [hs]
      rcases Nat.lt_or_ge k ops.size with h | h
      · exact h
      · rw [Array.getElem?_eq_none h] at ho; cases ho
    obtain ⟨o', e, h1, h2, h3, h4⟩ := ht k j hks hb
    rw [Array.getElem?_toList, ho] at h1
    cases h1
    have hl := hr e h2 h3
    rcases h4 with rfl | ⟨h5, h6⟩
    · exact hl
    · have hes : e.on < ops.size := by omega
      exact ahead_listed hc n e.on j (by omega) ops[e.on] (Array.getElem?_eq_getElem hes) h6 (fun e' he' hb' => hc e.on _ hl (Array.getElem?_eq_getElem hes) e' he' hb')

/-- the operations that have not run, in the order of the text -/
def left (l : List AO) (listed : Array Bool) : Nat → List AO
  | 0 => []
  | k + 1 => left l listed k ++ (match l[k]? with
    | some o => if listed.getD k true then [] else [o]
    | none => [])

theorem left_mem {l : List AO} {listed : Array Bool} : ∀ (k : Nat) (x : AO), x ∈ left l listed k → ∃ j, j < k ∧ l[j]? = some x ∧ listed.getD j true = false
  | 0, x, h => by cases h
  | k + 1, x, h => by
    simp only [left, List.mem_append] at h
    rcases h with h | h
    · obtain ⟨j, h1, h2⟩ := left_mem k x h
      exact ⟨j, by omega, h2⟩
    · split at h
      · rename_i o ho
        split at h
        · cases h
        · rename_i hl
          simp at h
          subst h
          exact ⟨k, by omega, ho, by simpa using hl⟩
      · cases h

theorem getD_set (listed : Array Bool) (i k : Nat) (d : Bool) (h : i ≠ k) : (listed.setIfInBounds i true).getD k d = listed.getD k d := getD_set_ne d h

/-- listing one that is not at k or behind leaves what is left ahead of k -/
theorem left_set_ge {l : List AO} {listed : Array Bool} {i : Nat} : ∀ (k : Nat), k ≤ i → left l (listed.setIfInBounds i true) k = left l listed k
  | 0, _ => rfl
  | k + 1, h => by
    simp only [left]
    rw [left_set_ge k (by omega), getD_set _ _ _ _ (by omega)]

theorem left_split {l : List AO} {listed : Array Bool} {i : Nat} {o : AO} (ho : l[i]? = some o) (hi : listed.getD i true = false) : ∀ (k : Nat), i < k →
    ∃ post, left l listed k = left l listed i ++ o :: post ∧ left l (listed.setIfInBounds i true) k = left l listed i ++ post
  | 0, h => absurd h (Nat.not_lt_zero _)
  | k + 1, h => by
    by_cases hk : i = k
    · subst hk
      refine ⟨[], ?_, ?_⟩
      · simp only [left, ho, hi]; rfl
      · have hlt : i < listed.size := by
          rcases Nat.lt_or_ge i listed.size with h' | h'
          · exact h'
          · simp [Array.getD_eq_getD_getElem?, Array.getElem?_eq_none h'] at hi
        have : (listed.setIfInBounds i true).getD i true = true := by simp [Array.getD_eq_getD_getElem?, hlt]
        simp only [left, ho, this, left_set_ge i (Nat.le_refl i), if_true]
    · obtain ⟨post, h1, h2⟩ := left_split ho hi k (by omega)
      simp only [left]
      rw [h1, h2, getD_set _ _ _ _ hk]
      exact ⟨post ++ _, by rw [List.append_assoc, List.cons_append], by rw [List.append_assoc]⟩

theorem drawOk_pair {ops : Array Oper} {l : List AO} (h : drawOk ops l = true) {i j : Nat} {x y : AO} (hx : l[i]? = some x) (hy : l[j]? = some y) (hij : i < j) (hb : ((Region.before ops).getD j 0).testBit i = false) : pairOk x y = true := by
  unfold drawOk at h
  simp only [Bool.and_eq_true] at h
  have h := h.2
  simp only [idxs, List.all_eq_true] at h
  have h1 := h (y, j) (by rw [List.mem_zipIdx_iff_getElem?]; exact hy)
  have h2 := h1 (x, i) (by rw [List.mem_zipIdx_iff_getElem?]; exact hx)
  simp only [Bool.or_eq_true] at h2
  rcases h2 with (h2 | h2) | h2
  · have : Nat.blt i j = true := by simp [Nat.blt_eq, hij]
    rw [this] at h2; cases h2
  · have e : (Region.before ops).toList.getD j 0 = (Region.before ops).getD j 0 := by
      simp [List.getD_eq_getElem?_getD, Array.getD_eq_getD_getElem?]
    rw [e, hb] at h2; cases h2
  · exact h2

theorem drawOk_back {ops : Array Oper} {l : List AO} (h : drawOk ops l = true) {i : Nat} {o : Oper} (ho : ops[i]? = some o) : ∀ e ∈ o.after, Region.binds .any e = true → e.on < i := by
  intro e he hb
  unfold drawOk at h
  simp only [Bool.and_eq_true] at h
  have h := h.1
  simp only [idxs, List.all_eq_true] at h
  have h1 := h (o, i) (by rw [List.mem_zipIdx_iff_getElem?, Array.getElem?_toList]; exact ho) e (by simpa using he)
  simp only [hb, Bool.not_true, Bool.false_or, Nat.blt_eq] at h1
  exact h1

theorem some_ready {ops : Array Oper} {l : List AO} (h : drawOk ops l = true) {listed : Array Bool} (hs : listed.size = ops.size) : ∀ (n j : Nat), j < n → j < ops.size → listed.getD j true = false → ∃ i, i ∈ Region.ready .any ops listed
  | 0, _, h0, _, _ => absurd h0 (Nat.not_lt_zero _)
  | n + 1, j, hj, hlt, hu => by
    by_cases hall : ∀ e ∈ (ops[j]).after, Region.binds .any e = true → listed.getD e.on false = true
    · exact ⟨j, mem_ready.2 ⟨hu, ops[j], Array.getElem?_eq_getElem hlt, hall⟩⟩
    · simp only [Classical.not_forall] at hall
      obtain ⟨e, he, hb, hn⟩ := hall
      have hback := drawOk_back h (Array.getElem?_eq_getElem hlt) e he hb
      have hlt2 : e.on < ops.size := by omega
      refine some_ready h hs n e.on (by omega) hlt2 ?_
      have hjs : e.on < listed.size := by omega
      simp [Array.getD_eq_getD_getElem?, hjs] at hn ⊢
      exact hn

theorem wpAny_of {ops : Array Oper} {mt : Tmp → Bool} {l : List AO} (hl : OL E.P mt ops l) (hd : drawOk ops l = true) {Q : Exit → Act → World → Prop} {K : St → Prop} (hn0 : (c0.H = n0 ∧ HR c0)) (hn : Next' E c0 K (Q .normal)) :
    ∀ (fuel : Nat) (listed : Array Bool) (s : St) (c : Cx) (a : Act), listed.size = ops.size → Shut ops listed → (left l listed ops.size).length ≤ fuel → opsK E n0 true (left l listed ops.size) s K → Sim E c0 s c a →
      wpAny E.P .any ops Q fuel listed a c.w := by
  have none_ready : ∀ (listed : Array Bool), left l listed ops.size = [] → Region.ready .any ops listed = [] := by
    intro listed h
    cases hr : Region.ready .any ops listed with
    | nil => rfl
    | cons i r =>
      have hi : i ∈ Region.ready .any ops listed := by rw [hr]; simp
      obtain ⟨h1, ob, h2, _⟩ := mem_ready.1 hi
      obtain ⟨o, ho, _⟩ := hl.at_ i ob h2
      obtain ⟨post, h3, _⟩ := left_split ho h1 ops.size (by rw [← hl.len]; exact getElem?_lt ho)
      rw [h] at h3
      simp at h3
  intro fuel
  induction fuel with
  | zero =>
    intro listed s c a _ _ hf h hs
    have h0 : left l listed ops.size = [] := List.eq_nil_of_length_eq_zero (by omega)
    rw [h0] at h
    exact ⟨none_ready listed h0, hn _ _ _ h hs⟩
  | succ fuel ih =>
    intro listed s c a hsz hc hf h hs
    refine ⟨fun hr => ?_, fun i hi => ?_⟩
    · -- nothing may come up: nothing is left
      cases hlf : left l listed ops.size with
      | nil => rw [hlf] at h; exact hn _ _ _ h hs
      | cons x r =>
        -- the first that is left is ready
        exfalso
        obtain ⟨j, j1, _, j3⟩ := left_mem (l := l) (listed := listed) ops.size x (by rw [hlf]; simp)
        obtain ⟨i, hi⟩ := some_ready hd hsz (j + 1) j (by omega) j1 j3
        rw [hr] at hi; cases hi
    · obtain ⟨h1, ob, h2, h3⟩ := mem_ready.1 hi
      obtain ⟨o, ho, hor⟩ := hl.at_ i ob h2
      have hlt : i < ops.size := by rw [← hl.len]; exact getElem?_lt ho
      obtain ⟨post, e1, e2⟩ := left_split ho h1 ops.size hlt
      rw [e1] at h
      have hb := bubble (left l listed i) post (fun x hx => by
        obtain ⟨j, j1, j2, j3⟩ := left_mem i x hx
        refine drawOk_pair hd j2 ho j1 ?_
        cases hbit : ((Region.before ops).getD i 0).testBit j with
        | false => rfl
        | true =>
          have := ahead_listed hc (i + 1) i j (by omega) ob h2 hbit h3
          have hjs : j < listed.size := by omega
          simp [Array.getD_eq_getD_getElem?, hjs] at this j3
          rw [this] at j3; cases j3) s K h
      refine opK_sound h2 hor hn0 hb hs (fun s' c' a' h' hs' => ?_)
      have hset : (listed.setIfInBounds i true).size = ops.size := by simp [hsz]
      refine ih (listed.setIfInBounds i true) s' c' a' hset ?_ ?_ ?_ hs'
      · intro k o' hk hok e he hbe
        by_cases hki : i = k
        · subst hki
          rw [h2] at hok; cases hok
          exact getD_set_true (h3 e he hbe)
        · rw [getD_set _ _ _ _ hki] at hk
          exact getD_set_true (hc k o' hk hok e he hbe)
      · rw [e2]; rw [e1] at hf; simp at hf ⊢; omega
      · rw [e2]; exact h'
end
end Ink

namespace Ink
open Go

section
variable {E : Env} {n0 : List Blk} {c0 : Cx}

/-- what the abstract ways out say of the concrete ones -/
def PostR (E : Env) (c0 : Cx) (Q : Ex → St → Prop) : Exit → Act → World → Prop
  | .normal, a, w => ∃ s c, c.w = w ∧ Q .normal s ∧ Sim E c0 s c a
  | .exit i, a, w => ∃ s c, c.w = w ∧ Q (.exit i) s ∧ Sim E c0 s c a
  | .ret, a, w => ∃ s c, c.w = w ∧ Q .ret s ∧ Sim E c0 s c a
  | .goto l, a, w => ∃ s c, c.w = w ∧ Q (.goto l) s ∧ Sim E c0 s c a
  | _, _, _ => False

theorem cOps_OL {mt : Tmp → Bool} {ops : Array Oper} : ∀ (r : List Oper) (l : List AO), cOps E.P mt ops r = some l → l.length = r.length ∧ ∀ (i : Nat) (ob : Oper), r[i]? = some ob → ∃ o, l[i]? = some o ∧ OR E.P mt ops ob o
  | [], l, h => by simp [cOps] at h; subst h; exact ⟨rfl, fun i ob hi => by simp at hi⟩
  | o :: r, l, h => by
    simp only [cOps] at h
    split at h
    · rename_i a l' ha hl'
      obtain ⟨i1, i2⟩ := cOps_OL r l' hl'
      have fin : ∀ x : AO, OR E.P mt ops o x → l = x :: l' → l.length = (o :: r).length ∧ ∀ (i : Nat) (ob : Oper), (o :: r)[i]? = some ob → ∃ o, l[i]? = some o ∧ OR E.P mt ops ob o := by
        rintro x hx rfl
        refine ⟨by simp [i1], fun i ob hi => ?_⟩
        cases i with
        | zero => simp at hi; subst hi; exact ⟨x, rfl, hx⟩
        | succ i => simp at hi; simpa using i2 i ob hi
      split at h
      · rename_i hg
        cases h
        exact fin _ ⟨⟨_, ha, .inl rfl⟩, rfl, by rw [hg]⟩ rfl
      · rename_i j b hg
        split at h
        · rename_i g hgj
          cases h
          exact fin _ ⟨⟨_, ha, .inl rfl⟩, rfl, by rw [hg]; exact ⟨g, hgj, rfl⟩⟩ rfl
        · cases h
    · cases h

theorem setQuiet_OL {mt : Tmp → Bool} {ops : Array Oper} {l : List AO} (h : OL E.P mt ops l) : OL E.P mt ops (setQuiet ops l) := by
  refine ⟨by simp [setQuiet, idxs, h.len], fun i ob hi => ?_⟩
  obtain ⟨o, ho, hor⟩ := h.at_ i ob hi
  have hz : l.zipIdx[i]? = some (o, i) := by simp [ho]
  simp only [setQuiet, idxs, List.getElem?_map, hz, Option.map_some]
  refine ⟨_, rfl, ?_⟩
  split
  · exact ⟨hor.op, hor.dst, hor.guard⟩
  · exact hor

theorem loadA_str (tm : List AV) (H : List Blk) (n : Option Nat) (a : AOpd) (bs : List AOpd) : opRes tm H (.loadA n a bs) = opRes tm H (.load n a) ∨ opRes tm H (.loadA n a bs) = .bad := by
  simp only [opRes]
  split
  · split
    · exact .inl rfl
    · exact .inr rfl
  · exact .inl rfl
  · exact .inr rfl

theorem storeA_str (tm : List AV) (H : List Blk) (n : Nat) (a x b : AOpd) (bs : List AOpd) : opRes tm H (.storeA n a x b bs) = opRes tm H (.store n a x) ∨ opRes tm H (.storeA n a x b bs) = .bad := by
  simp only [opRes]
  split
  · split
    · split
      · exact .inl rfl
      · exact .inr rfl
    · exact .inr rfl
  · exact .inr rfl

theorem OpFor.str {P : Program} {mt : Tmp → Bool} {ob : Oper} {op op' : AOp} (h : OpFor P mt ob op) (h1 : ∀ f args, op' ≠ .call f args) (h2 : ∀ f args, op' ≠ .callP f args) (h3 : ∀ f args, op ≠ .callP f args)
    (hs : ∀ tm H, opRes tm H op' = opRes tm H op ∨ opRes tm H op' = .bad) : OpFor P mt ob op' := by
  obtain ⟨op0, h0, h | ⟨f, args, _, h⟩ | ⟨_, _, h⟩⟩ := h
  · subst h; exact ⟨op, h0, .inr (.inr ⟨h1, h2, hs⟩)⟩
  · exact absurd h (h3 f args)
  · refine ⟨op0, h0, .inr (.inr ⟨h1, h2, fun tm H => ?_⟩)⟩
    rcases hs tm H with h' | h'
    · rw [h']; exact h tm H
    · exact .inr h'

theorem setApart_OL {mt : Tmp → Bool} {ops : Array Oper} {l : List AO} (h : OL E.P mt ops l) : OL E.P mt ops (setApart ops l) := by
  refine ⟨by simp [setApart, idxs, h.len], fun i ob hi => ?_⟩
  obtain ⟨o, ho, hor⟩ := h.at_ i ob hi
  have hz : l.zipIdx[i]? = some (o, i) := by simp [ho]
  simp only [setApart, idxs, List.getElem?_map, hz, Option.map_some]
  refine ⟨_, rfl, ?_⟩
  obtain ⟨h1, h2, h3⟩ := hor
  split
  · rename_i n a hop
    rw [hop] at h1
    split
    · exact ⟨by rw [hop]; exact h1, h2, h3⟩
    · exact ⟨h1.str (fun _ _ e => by cases e) (fun _ _ e => by cases e) (fun _ _ e => by cases e) (fun tm H => loadA_str tm H _ _ _), h2, h3⟩
  · rename_i n a x hop
    rw [hop] at h1
    split
    · exact ⟨by rw [hop]; exact h1, h2, h3⟩
    · split
      · exact ⟨h1.str (fun _ _ e => by cases e) (fun _ _ e => by cases e) (fun _ _ e => by cases e) (fun tm H => storeA_str tm H _ _ _ _ _), h2, h3⟩
      · exact ⟨by rw [hop]; exact h1, h2, h3⟩
  · rename_i f args hop
    rw [hop] at h1
    split
    · refine ⟨?_, h2, h3⟩
      obtain ⟨op0, h0, h | ⟨f', args', _, h⟩ | ⟨h, _⟩⟩ := h1
      · exact ⟨op0, h0, .inr (.inl ⟨f, args, h.symm, rfl⟩)⟩
      · cases h
      · exact absurd rfl (h f args)
    · exact ⟨by rw [hop]; exact h1, h2, h3⟩
  · exact ⟨h1, h2, h3⟩

theorem Sim.drew {s : St} {c : Cx} {a : Act} (h : Sim E c0 s c a) : Sim E c0 s { c with w := { c.w with drawn := c.w.drawn + 1 } } a := by
  obtain ⟨hr, e⟩ := grow_ok h.hr { c.w with drawn := c.w.drawn + 1 } rfl rfl rfl (Nat.le_refl _) (fun _ _ => rfl)
  exact ⟨h.H, hr, h.tr.ext e, h.ext.trans e, h.g.ext e, h.defers⟩

theorem left_all (l : List AO) : ∀ k, k ≤ l.length → left l (Array.replicate l.length false) k = l.take k
  | 0, _ => rfl
  | k + 1, h => by
    simp only [left]
    rw [left_all l k (by omega)]
    have hk : k < l.length := by omega
    have h2 : (Array.replicate l.length false).getD k true = false := by simp [Array.getD_eq_getD_getElem?, hk]
    rw [List.getElem?_eq_getElem hk]
    simp only [h2]
    rw [List.take_succ_eq_append_getElem hk]
    rfl

theorem rep_false (n k : Nat) : (Array.replicate n false).getD k false = false := by
  by_cases h : k < n <;> simp [Array.getD_eq_getD_getElem?, h]

theorem exists_min {p : Nat → Prop} (h : ∃ n, p n) : ∃ n, p n ∧ ∀ k, p k → n ≤ k := by
  obtain ⟨n, hn⟩ := h
  induction n using Nat.strongRecOn with
  | _ n ih =>
    by_cases hk : ∃ k, k < n ∧ p k
    · obtain ⟨k, hkn, hp⟩ := hk
      exact ih k hkn hp
    · exact ⟨n, hn, fun k hp => Nat.le_of_not_lt fun hlt => hk ⟨k, hlt, hp⟩⟩


theorem noLabel {mt : Tmp → Bool} {y : Code} {ay : AC} (h : cCode E.P mt y = some ay) (hn : isSL ay = false) (l : Nat) : findLabel y l = none := by
  cases y with
  | seq u v =>
    simp only [cCode] at h
    split at h
    · cases h; cases hn
    · cases h
  | label k => simp only [cCode] at h; cases h; cases hn
  | _ => rfl

theorem spine {mt : Tmp → Bool} {M : Nat} (IH : ∀ (y : Code) (ac : AC), sizeOf y < M → cCode E.P mt y = some ac → ∀ (Q : Ex → St → Prop) (s : St) (c : Cx) (a : Act), wpc E n0 ac Q s → Sim E c0 s c a → y.wp E.P (PostR E c0 Q) a c.w) :
    ∀ (x : Code), sizeOf x ≤ M → ∀ (ax p : AC) (l : Nat) (r : AC), cCode E.P mt x = some ax → splitL ax = some (p, l, r) → ∃ rest, findLabel x l = some (.seq .skip rest) ∧ cCode E.P mt rest = some r ∧ sizeOf rest < M ∧
      ∀ (N : St → Prop) (Q : Ex → St → Prop) (J : Act → World → Prop) (s : St) (c : Cx) (a : Act), (∀ (s : St) (c : Cx) (a : Act), N s → Sim E c0 s c a → rest.wp E.P (Exit.jump l J (PostR E c0 Q)) a c.w) → wpc E n0 p (scopeQ N Q) s → Sim E c0 s c a →
        x.wp E.P (Exit.jump l J (PostR E c0 Q)) a c.w := by
  intro x
  induction x with
  | seq y z ihy ihz =>
    intro hM ax p l r hx hp
    simp only [cCode] at hx
    split at hx
    · rename_i ay az hy hz
      cases hx
      have hM' : sizeOf y < M ∧ sizeOf z < M := by simp at hM; omega
      unfold splitL at hp
      split at hp
      · rename_i l'
        cases hp
        have hyl : y = .label l := by
          cases y with
          | label k => simp only [cCode] at hy; cases hy; rfl
          | seq u v => simp only [cCode] at hy; split at hy <;> cases hy
          | cond u v w => simp only [cCode] at hy; split at hy <;> cases hy
          | block u v => simp only [cCode] at hy; split at hy <;> cases hy
          | loop v => simp only [cCode] at hy; split at hy <;> cases hy
          | scope v => simp only [cCode] at hy; split at hy <;> first | (cases hy; done) | (split at hy <;> cases hy)
          | region u v w => simp only [cCode] at hy; split at hy <;> first | (cases hy; done) | (split at hy <;> first | (cases hy; done) | (split at hy <;> cases hy))
          | _ => simp only [cCode] at hy; cases hy
        subst hyl
        refine ⟨z, by simp [findLabel], hz, hM'.2, fun N Q J s c a hN hw hs => ?_⟩
        simp only [wpc, scopeQ] at hw
        exact wp_seq (wp_label (hN s c a hw hs))
      · split at hp
        · cases hp
        · rename_i hns
          split at hp
          · rename_i p' l' r' hp'
            cases hp
            obtain ⟨rest, h1, h2, h3, h4⟩ := ihz (by omega) az p' l r hz hp'
            refine ⟨rest, ?_, h2, h3, fun N Q J s c a hN hw hs => ?_⟩
            · simp only [findLabel, noLabel hy hns l]; exact h1
            · simp only [wpc] at hw
              refine wp_seq (wp_mono (IH y ay hM'.1 hy _ s c a hw hs) (fun e a' w' hq => ?_))
              cases e with
              | normal =>
                obtain ⟨s', c', rfl, hq, hs'⟩ := hq
                exact h4 N Q J s' c' a' hN hq hs'
              | exit i => exact hq
              | ret => exact hq
              | goto k => obtain ⟨s', c', rfl, hq, hs'⟩ := hq; exact hq.elim
              | panic ch => exact hq.elim
              | outgrown => exact hq.elim
          · cases hp
    · cases hx
  | label k => intro hM ax p l r hx hp; simp only [cCode] at hx; cases hx; cases hp
  | cond u v w _ _ => intro hM ax p l r hx hp; simp only [cCode] at hx; split at hx <;> cases hx; cases hp
  | block u v _ => intro hM ax p l r hx hp; simp only [cCode] at hx; split at hx <;> cases hx; cases hp
  | loop v _ => intro hM ax p l r hx hp; simp only [cCode] at hx; split at hx <;> cases hx; cases hp
  | scope v _ => intro hM ax p l r hx hp; simp only [cCode] at hx; split at hx <;> first | (cases hx; done) | (split at hx <;> cases hx; cases hp)
  | region u v w => intro hM ax p l r hx hp; simp only [cCode] at hx; split at hx <;> first | (cases hx; done) | (split at hx <;> first | (cases hx; cases hp; done) | (split at hx <;> first | (cases hx; done) | (cases hx; cases hp)))
  | _ => intro hM ax p l r hx hp; simp only [cCode] at hx; cases hx <;> cases hp

open Classical in
theorem wpc_sound_n (hm : E.P.follows .mixedOrders = true) {mt : Tmp → Bool} (hn0 : (c0.H = n0 ∧ HR c0)) : ∀ (N : Nat) (cd : Code), sizeOf cd < N → ∀ (ac : AC), cCode E.P mt cd = some ac → ∀ (Q : Ex → St → Prop) (s : St) (c : Cx) (a : Act), wpc E n0 ac Q s → Sim E c0 s c a →
    cd.wp E.P (PostR E c0 Q) a c.w := by
  intro N
  induction N with
  | zero => intro cd h; omega
  | succ N ihN =>
  intro cd hN
  cases cd with
  | skip => intro ac h Q s c a hw hs; simp only [cCode] at h; cases h; exact wp_skip ⟨s, c, rfl, hw, hs⟩
  | ret => intro ac h Q s c a hw hs; simp only [cCode] at h; cases h; exact wp_ret ⟨s, c, rfl, hw, hs⟩
  | exit i => intro ac h Q s c a hw hs; simp only [cCode] at h; cases h; exact wp_exit ⟨s, c, rfl, hw, hs⟩
  | seq x y =>
    have ihx := ihN x (by simp at hN; omega)
    have ihy := ihN y (by simp at hN; omega)
    intro ac h Q s c a hw hs
    simp only [cCode] at h
    split at h
    · rename_i ax ay hx hy
      cases h
      simp only [wpc] at hw
      refine wp_seq (wp_mono (ihx ax hx _ s c a hw hs) (fun e a' w' hq => ?_))
      cases e with
      | normal =>
        obtain ⟨s', c', rfl, hq, hs'⟩ := hq
        exact ihy ay hy Q s' c' a' hq hs'
      | exit i => exact hq
      | ret => exact hq
      | goto l => exact hq
      | panic ch => exact hq.elim
      | outgrown => exact hq.elim
    · cases h
  | cond o x y =>
    have ihx := ihN x (by simp at hN; omega)
    have ihy := ihN y (by simp at hN; omega)
    intro ac h Q s c a hw hs
    simp only [cCode] at h
    split at h
    · rename_i ax ay hx hy
      cases h
      simp only [wpc] at hw
      have fin : ∀ (b : Bool) (s' : St), Sim E c0 s' c a → a.eval o = .bool b → (match b with | true => wpc E n0 ax Q s' | false => wpc E n0 ay Q s') → (Code.cond o x y).wp E.P (PostR E c0 Q) a c.w := by
        intro b s' hs' he hb
        cases b with
        | true => exact wp_cond_true he (ihx ax hx Q s' c a hb hs')
        | false => exact wp_cond_false he (ihy ay hy Q s' c a hb hs')
      have hev := ev_ok hs.tr o
      unfold condK at hw
      split at hw
      · rename_i t hot
        split at hw
        · rename_i b hb
          rw [hot] at hev
          have hev' : VR c (.bool b) (a.eval o) := by
            have : AOpd.ev s.tm (.tmp t) = .bool b := by
              rw [getK_eq] at hb
              simp [AOpd.ev, List.getD_eq_getElem?_getD, hb]
            rw [this] at hev; exact hev
          have he : a.eval o = .bool b := by
            generalize a.eval o = v at hev'
            cases hev'; rfl
          have hl := hs.lit hb
          cases b with
          | true => simp only [setK_eq] at hw; exact fin true _ hl he hw
          | false => simp only [setK_eq] at hw; exact fin false _ hl he hw
        · exact hw.elim
      · rename_i b hob
        rw [hob] at hev
        have he : a.eval o = .bool b := by
          simp only [AOpd.ev] at hev
          generalize a.eval o = v at hev
          cases hev; rfl
        cases b with
        | true => exact fin true _ hs he hw
        | false => exact fin false _ hs he hw
      · exact hw.elim
    · cases h
  | block i x =>
    have ih := ihN x (by simp at hN; omega)
    intro ac h Q s c a hw hs
    simp only [cCode] at h
    split at h
    · rename_i ax hx
      cases h
      simp only [wpc] at hw
      refine wp_block (wp_mono (ih ax hx _ s c a hw hs) (fun e a' w' hq => ?_))
      cases e with
      | normal => exact hq
      | exit j =>
        obtain ⟨s', c', rfl, hq, hs'⟩ := hq
        simp only [blockQ] at hq
        simp only [Exit.inBlock]
        split
        · rename_i hji
          subst hji
          have : Nat.beq j j = true := Nat.beq_refl j
          rw [this] at hq
          exact ⟨s', c', rfl, hq, hs'⟩
        · rename_i hji
          have : Nat.beq j i = false := by
            cases hb : Nat.beq j i with
            | false => rfl
            | true => exact absurd (Nat.eq_of_beq_eq_true hb) hji
          rw [this] at hq
          exact ⟨s', c', rfl, hq, hs'⟩
      | ret => exact hq
      | goto l => exact hq
      | panic ch => exact hq.elim
      | outgrown => exact hq.elim
    · cases h
  | loop x =>
    have ih := ihN x (by simp at hN; omega)
    intro ac h Q s c a hw hs
    simp only [cCode] at h
    split at h
    · rename_i ax hx
      cases h
      simp only [wpc] at hw
      unfold LoopG at hw
      obtain ⟨α, I, m, x0, hwk, hround⟩ := hw
      let R : Nat → Act → World → Prop := fun n a w => ∃ x c, c.w = w ∧ Sim E c0 (I x) c a ∧ m x = n
      have hwk' := hwk
      unfold Wk at hwk'
      obtain ⟨c', hcw, hs'⟩ := hwk' c0 c a hn0 hs
      rw [← hcw]
      refine wp_loop (fun a w => ∃ n, R n a w) (fun a w => if h : ∃ n, R n a w then Classical.choose (exists_min h) else 0) ⟨m x0, x0, c', rfl, hs', rfl⟩ (fun a1 w1 hI => ?_)
      have hspec := (Classical.choose_spec (exists_min hI)).1
      obtain ⟨y, cy, rfl, hsy, hmy⟩ := hspec
      refine wp_mono (ih ax hx _ (I y) cy a1 (hround y) hsy) (fun e a' w' hq => ?_)
      cases e with
      | normal =>
        obtain ⟨s2, c2, rfl, ⟨y', hwk2, hlt⟩, hs2⟩ := hq
        unfold Wk at hwk2
        obtain ⟨c3, hc3, hs3⟩ := hwk2 c0 c2 a' hn0 hs2
        rw [← hc3]
        have hR : R (m y') a' c3.w := ⟨y', c3, rfl, hs3, rfl⟩
        refine ⟨⟨_, hR⟩, ?_⟩
        have h1 : ∃ n, R n a' c3.w := ⟨_, hR⟩
        simp only [dif_pos h1, dif_pos hI]
        have := (Classical.choose_spec (exists_min h1)).2 _ hR
        omega
      | exit i => exact hq
      | ret => exact hq
      | goto l => exact hq
      | panic ch => exact hq.elim
      | outgrown => exact hq.elim
    · cases h
  | region id ops draw =>
    intro ac h Q s c a hw hs
    simp only [cCode] at h
    split at h
    · rename_i l hl
      obtain ⟨h1, h2⟩ := cOps_OL (E := E) ops.toList l hl
      have hol : OL E.P mt ops l := ⟨by simpa using h1, fun i ob hi => h2 i ob (by rw [Array.getElem?_toList]; exact hi)⟩
      split at h
      · cases h
        simp only [wpc] at hw
        refine wp_region ?_
        have := opsK_sound hol (c0 := c0) (K := Q .normal) (Q := PostR E c0 Q) (dr := false) hn0 (fun s' c' a' hk hs' => ⟨s', c', rfl, hk, hs'⟩) l.length s c a (by simpa using hw) (Nat.le_refl _) hs
        rw [← hol.len]
        simpa using this
      · split at h
        · rename_i hd
          cases h
          simp only [wpc] at hw
          have hol2 := setApart_OL (setQuiet_OL hol)
          generalize setApart ops (setQuiet ops l) = l2 at hw hol2 hd
          refine wp_region_any hm ?_
          have hd2 := hs.drew
          have e0 : left l2 (Array.replicate ops.size false) ops.size = l2 := by
            rw [← hol2.len, left_all l2 _ (Nat.le_refl _), List.take_length]
          exact wpAny_of hol2 hd (c0 := c0) (K := Q .normal) (Q := PostR E c0 Q) hn0 (fun s' c' a' hk hs' => ⟨s', c', rfl, hk, hs'⟩) ops.size (Array.replicate ops.size false) s _ a (by simp)
            (fun k o hk => by rw [rep_false] at hk; cases hk) (by rw [e0, hol2.len]; exact Nat.le_refl _) (by rw [e0]; exact hw) hd2
        · cases h
    · cases h
  | label l => intro ac h Q s c a hw hs; simp only [cCode] at h; cases h; exact wp_label ⟨s, c, rfl, hw, hs⟩
  | goto l => intro ac h Q s c a hw hs; simp only [cCode] at h; cases h; exact wp_goto ⟨s, c, rfl, hw, hs⟩
  | scope x =>
    intro ac h Q s c a hw hs
    simp only [cCode] at h
    split at h
    · rename_i ax hx
      split at h
      · rename_i p l r hp
        cases h
        simp only [wpc] at hw
        obtain ⟨rest, hf, hr, hlt, hsp⟩ := spine (E := E) (c0 := c0) (n0 := n0) (mt := mt) (M := sizeOf x) (fun y ac hy => ihN y (by simp at hN; omega) ac) x (Nat.le_refl _) ax p l r hx hp
        let R : Nat → Act → World → Prop := fun n a w => ∃ (α : Type) (I : α → St) (m : α → Nat) (y : α) (c : Cx), (∀ y, wpc E n0 r (fun e s' => match e with
          | .goto k => k = l ∧ ∃ y', Wk E n0 s' (I y') ∧ m y' < m y
          | e => Q e s') (I y)) ∧ c.w = w ∧ Sim E c0 (I y) c a ∧ m y = n
        have one : ∀ (n : Nat) (a1 : Act) (w1 : World) (α : Type) (I : α → St) (m : α → Nat) (y : α) (c1 : Cx), (∀ y, wpc E n0 r (fun e s' => match e with
          | .goto k => k = l ∧ ∃ y', Wk E n0 s' (I y') ∧ m y' < m y
          | e => Q e s') (I y)) → c1.w = w1 → Sim E c0 (I y) c1 a1 → rest.wp E.P (fun e a' w' => match e with
            | .goto l' => l' = l ∧ ∃ n', n' < m y ∧ R n' a' w'
            | e => PostR E c0 Q e a' w') a1 w1 := by
          intro n a1 w1 α I m y c1 hround hcw hsy
          subst hcw
          refine wp_mono (ihN rest (by simp at hN; omega) r hr _ (I y) c1 a1 (hround y) hsy) (fun e a' w' hq => ?_)
          cases e with
          | goto l' =>
            obtain ⟨s2, c2, rfl, ⟨rfl, y', hwk2, hlt2⟩, hs2⟩ := hq
            unfold Wk at hwk2
            obtain ⟨c3, hc3, hs3⟩ := hwk2 c0 c2 a' hn0 hs2
            exact ⟨rfl, m y', hlt2, α, I, m, y', c3, hround, hc3, hs3, rfl⟩
          | normal => exact hq
          | exit i => exact hq
          | ret => exact hq
          | panic ch => exact hq
          | outgrown => exact hq
        refine wp_scope_jumps l (fun a w => ∃ n, R n a w) (fun a w => if h : ∃ n, R n a w then Classical.choose (exists_min h) else 0) hf ?_ ?_
        · refine hsp _ Q _ s c a (fun s' c' a' hn hs' => ?_) hw hs
          unfold LoopJ at hn
          obtain ⟨α, I, m, y0, hwk, hround⟩ := hn
          unfold Wk at hwk
          obtain ⟨c2, hc2, hs2⟩ := hwk c0 c' a' hn0 hs'
          rw [← hc2]
          refine wp_mono (one 0 a' c2.w α I m y0 c2 hround rfl hs2) (fun e a3 w3 hq => ?_)
          cases e with
          | goto l' => exact ⟨hq.1, hq.2.elim fun n' hn' => ⟨n', hn'.2⟩⟩
          | normal => exact hq
          | exit i => exact hq
          | ret => exact hq
          | panic ch => exact hq
          | outgrown => exact hq
        · intro a1 w1 hI
          have hspec := (Classical.choose_spec (exists_min hI)).1
          obtain ⟨α, I, m, y, c1, hround, hcw, hsy, hmy⟩ := hspec
          refine wp_seq (wp_skip ?_)
          refine wp_mono (one 0 a1 w1 α I m y c1 hround hcw hsy) (fun e a3 w3 hq => ?_)
          cases e with
          | goto l' =>
            obtain ⟨hl', n', hn', hR⟩ := hq
            refine ⟨hl', ⟨n', hR⟩, ?_⟩
            have h1 : ∃ n, R n a3 w3 := ⟨n', hR⟩
            simp only [dif_pos h1, dif_pos hI]
            have := (Classical.choose_spec (exists_min h1)).2 _ hR
            omega
          | normal => exact hq
          | exit i => exact hq
          | ret => exact hq
          | panic ch => exact hq
          | outgrown => exact hq
      · cases h
    · cases h
  | _ => intro ac h; simp only [cCode] at h; cases h

theorem wpc_sound (hm : E.P.follows .mixedOrders = true) {mt : Tmp → Bool} (hn0 : (c0.H = n0 ∧ HR c0)) (cd : Code) (ac : AC) (h : cCode E.P mt cd = some ac) (Q : Ex → St → Prop) (s : St) (c : Cx) (a : Act) (hw : wpc E n0 ac Q s) (hs : Sim E c0 s c a) :
    cd.wp E.P (PostR E c0 Q) a c.w := wpc_sound_n hm hn0 (sizeOf cd + 1) cd (by omega) ac h Q s c a hw hs
end
end Ink

namespace Ink
open Go

def cRes (P : Program) : ResultVar → Option ARes
  | .tmp t => some (.tmp t)
  | .cell a t => (aggN P t).map (.cell a)

def cResL (P : Program) : List ResultVar → Option (List ARes)
  | [] => some []
  | r :: rs => match cRes P r, cResL P rs with
    | some x, some l => some (x :: l)
    | _, _ => none

/-- a function, compiled -/
def cFn (P : Program) (mt : Tmp → Bool) (fn : Func) : Option AF :=
  match fn.body with
  | some c => match cCode P mt c, cResL P fn.results.toList with
    | some b, some rs => match fn.name == "runtime.NumGoroutine" with
      | true => none
      | false => some { ntmps := fn.ntmps, results := rs, body := b }
    | _, _ => none
  | none => none

/-- what is assigned to -/
def mtOf (c : Code) : Tmp → Bool := fun t => go t c
where
  go (t : Tmp) : Code → Bool
  | .region _ ops _ => ops.any fun o => match o.op with
    | .assign (.tmp u) => u == t
    | _ => false
  | .seq a b => go t a || go t b
  | .cond _ a b => go t a || go t b
  | .block _ a => go t a
  | .loop a => go t a
  | .scope a => go t a
  | _ => false

section
variable {E : Env} {c0 c : Cx} {s : St} {a : Act}


theorem loadRes_run {n : Option Nat} {cs : List AV} {k : Nat} {H H' : List Blk} {r : AV} {P : Program} {t : TypeId} (hn : aggN P t = some n) {b off : Nat} (hsc : ∀ x ∈ cs, sc x = true)
    (hc : ∀ (j : Nat) (x : AV), cs[j]? = some x → ∃ v, c.w.cell? ⟨b, off + j, none⟩ = some v ∧ VR c x v) (h : loadRes n cs k H = .ok r H') : ∃ x, (loadVar t ⟨b, off + k, none⟩).run P c.w = .ok x c.w ∧ VR c r x := by
  obtain ⟨i, hi, hsz, hag⟩ := aggN_spec hn c.w
  cases n with
  | none =>
    simp only [loadRes] at h
    have hag' : (isAgg t).run P c.w = .ok false c.w := by
      rcases hag with ⟨h, _⟩ | ⟨_, h⟩
      · cases h
      · exact h
    rw [getK_eq] at h
    split at h
    · rename_i v hv
      obtain ⟨u, h1, h2⟩ := hc k v hv
      cases h
      exact ⟨u, by simp [loadVar, hag', run_load, h1], h2⟩
    · cases h
  | some m =>
    simp only [loadRes] at h
    have ⟨hm, hag'⟩ : m = i.size ∧ (isAgg t).run P c.w = .ok true c.w := by
      rcases hag with ⟨h, h'⟩ | ⟨h, _⟩
      · cases h; exact ⟨rfl, h'⟩
      · cases h
    split at h
    · rename_i hle
      rw [lenK_eq] at hle
      have hle := Nat.le_of_ble_eq_true hle
      rw [takeK_eq, dropK_eq] at h
      cases h
      have hex : ∃ vs : List Value, vs.length = m ∧ ∀ j, j < m → ∃ x, cs[k + j]? = some x ∧ ∃ v, vs[j]? = some v ∧ c.w.cell? ⟨b, off + (k + j), none⟩ = some v ∧ VR c x v := by
        have : ∀ j : Nat, j < m → ∃ v, ∃ x, cs[k + j]? = some x ∧ c.w.cell? ⟨b, off + (k + j), none⟩ = some v ∧ VR c x v := fun j hj => by
          have hl : k + j < cs.length := by omega
          obtain ⟨v, h1, h2⟩ := hc (k + j) cs[k + j] (List.getElem?_eq_getElem hl)
          exact ⟨v, _, List.getElem?_eq_getElem hl, h1, h2⟩
        refine ⟨(List.range m).map fun j => (c.w.cell? ⟨b, off + (k + j), none⟩).getD undef, by simp, fun j hj => ?_⟩
        obtain ⟨v, x, h1, h2, h3⟩ := this j hj
        exact ⟨x, h1, v, by simp [hj, h2], h2, h3⟩
      obtain ⟨vs, hvl, hvs⟩ := hex
      refine ⟨.agg vs.toArray, ?_, .agg _ _ (fun x hx => hsc x (List.mem_of_mem_drop (List.mem_of_mem_take hx))) (by simp [hvl]; omega) ?_⟩
      · have := run_loadCells_list (P := P) c.w ⟨b, off + k, none⟩ vs (fun j v hv => by
          have hj : j < m := by
            rcases Nat.lt_or_ge j m with h | h
            · exact h
            · rw [List.getElem?_eq_none (by omega)] at hv; cases hv
          obtain ⟨x, _, v', h1, h2, _⟩ := hvs j hj
          rw [hv] at h1; cases h1
          rw [addr_add, Nat.add_assoc]; exact h2)
        rw [hvl] at this
        simp [loadVar, hag', hsz, ← hm, this]
      · intro j x u hx hu
        simp only [List.getElem?_take, List.getElem?_drop] at hx
        split at hx
        · rename_i hj
          obtain ⟨x', h1, v', h2, _, h3⟩ := hvs j hj
          rw [hx] at h1; cases h1
          simp at hu
          rw [hu] at h2; cases h2
          exact h3
        · cases hx
    · cases h

def resM (tm : Array Value) : ResultVar → Sem Value
  | .tmp t => pure (tm.getD t undef)
  | .cell a t => do loadVar t (← asAddr (tm.getD a undef))

theorem results_eq (fn : Func) (tm : Array Value) : results fn tm = (do
  let vs ← fn.results.mapM (resM tm)
  pure (if h : vs.size = 1 then vs[0] else .tuple vs) : Sem Value) := by
  unfold results
  congr 1

theorem resEv_run {rv : ResultVar} {ar : ARes} (hcr : cRes E.P rv = some ar) (hs : Sim E c0 s c a) {v : AV} (h : resEv s.tm s.H ar = some v) :
    ∃ x, (resM a.tmps rv).run E.P c.w = .ok x c.w ∧ VR c v x := by
  cases rv with
  | tmp t =>
    simp only [cRes] at hcr; cases hcr
    simp only [resEv] at h
    rw [getK_eq] at h
    have := ev_ok hs.tr (.tmp t)
    simp only [cOpd, AOpd.ev, List.getD_eq_getElem?_getD, h, Option.getD_some] at this
    exact ⟨_, rfl, this⟩
  | cell b t =>
    simp only [cRes] at hcr
    cases hn : aggN E.P t with
    | none => rw [hn] at hcr; cases hcr
    | some n =>
      rw [hn] at hcr; cases hcr
      simp only [resEv] at h
      split at h
      · rename_i i ver off hg
        split at h
        · rename_i T cs hl
          split at h
          · rename_i r H' hld
            cases h
            rw [getK_eq] at hg
            have hp := ev_ok hs.tr (.tmp b)
            simp only [cOpd, AOpd.ev, List.getD_eq_getElem?_getD, hg, Option.getD_some] at hp
            have hb := liveCells_some hl
            rw [← hs.H] at hb
            obtain ⟨l, hμ, hv⟩ := ptr_at hp hb
            obtain ⟨vs, fr, g1, g2, g3, g4, g5, g6⟩ := blk_cells hs.hr hb hμ
            obtain ⟨x, h1, h2⟩ := loadRes_run hn (b := l.b) (off := l.base) g4 (fun j x hx => let ⟨v, h1, h2⟩ := g5 j x hx; ⟨v, by rw [cell_heap g1]; exact h1, h2⟩) hld
            refine ⟨x, ?_, h2⟩
            have hv' : a.tmps.getD b undef = .pointer (some ⟨l.b, l.base + off, none⟩) := hv
            simp [resM, hv', asAddr, h1]
          · cases h
        · cases h
      · cases h

theorem resL_run : ∀ (rvs : List ResultVar) (ars : List ARes), cResL E.P rvs = some ars → Sim E c0 s c a → ∀ l, resL s.tm s.H ars = some l →
    ∃ xs : List Value, (rvs.mapM (resM a.tmps)).run E.P c.w = .ok xs c.w ∧ LR c l xs
  | [], ars, h, hs, l, hl => by
    simp only [cResL] at h; cases h
    simp only [resL] at hl; cases hl
    exact ⟨[], rfl, rfl, fun j x v hx => by simp at hx⟩
  | rv :: rvs, ars, h, hs, l, hl => by
    simp only [cResL] at h
    split at h
    · rename_i ar ars' h1 h2
      cases h
      simp only [resL] at hl
      split at hl
      · rename_i v l' g1 g2
        cases hl
        obtain ⟨x, e1, e2⟩ := resEv_run h1 hs g1
        obtain ⟨xs, f1, f2⟩ := resL_run rvs ars' h2 hs l' g2
        refine ⟨x :: xs, ?_, by simp [f2.len], fun j y u hy hu => ?_⟩
        · rw [List.mapM_cons]
          simp only [Sem.run_bind]
          rw [e1]
          simp only [Result.andThen_ok, f1]
          rfl
        · cases j with
          | zero => simp at hy hu; subst hy hu; exact e2
          | succ j => simp at hy hu; exact f2.at_ j y u hy hu
      · cases hl
    · cases h

theorem results_run {fn : Func} {ars : List ARes} (hc : cResL E.P fn.results.toList = some ars) (hs : Sim E c0 s c a) {l : List AV} (hl : resL s.tm s.H ars = some l) :
    ∃ v, (results fn a.tmps).run E.P c.w = .ok v c.w ∧ VR c (oneV l) v := by
  obtain ⟨xs, h1, h2⟩ := resL_run _ _ hc hs l hl
  have : (results fn a.tmps).run E.P c.w = .ok (if h : xs.toArray.size = 1 then xs.toArray[0] else .tuple xs.toArray) c.w := by
    rw [results_eq, Array.mapM_eq_mapM_toList]
    simp only [Sem.run_bind, Sem.run_map, h1, Result.andThen_ok]
    rfl
  refine ⟨_, this, ?_⟩
  have hlen := h2.len
  match l, xs, hlen, h2 with
  | [], [], _, _ => exact .tup [] #[] rfl (fun j x v hx => by simp at hx)
  | [v], [x], _, h2 => exact h2.at_ 0 v x rfl rfl
  | v :: v' :: l, x :: x' :: xs, hlen, h2 =>
    rw [dif_neg (by simp)]
    exact .tup _ _ (by simpa using hlen) (fun j y u hy hu => h2.at_ j y u hy (by simpa using hu))

theorem Invokes.of_calls {P : Program} {f : FuncId} {fn : Func} {c : Code} {vs : Array Value} {w : World} {R : Value → World → Prop} (hf : P.funcs[f]? = some fn) (hb : fn.body = some c)
    (hn : (fn.name == "runtime.NumGoroutine") = false) (h : Calls P f vs w fun e w' => ∃ v, e = .returned v ∧ R v w') : Invokes P f vs w R := by
  refine .inl ⟨fun w => ?_, h⟩
  have hn' : ¬ fn.name = "runtime.NumGoroutine" := by simpa using hn
  simp [callFunc, hf, hb, hn']

def enterTm (args : List AV) (n : Nat) : List AV := args ++ List.replicate (n - args.length) undefAV

/-- A FUNCTION IS ENTERED. -/
theorem ACalls.enter {E : Env} {f : FuncId} {fn : Func} {args : List AV} {H : List Blk} {Q : AV → List Blk → Prop} {mt : Tmp → Bool} {af : AF} (hm : E.P.follows .mixedOrders = true)
    (hf : E.P.funcs[f]? = some fn) (hc : cFn E.P mt fn = some af) (h : wpc E H af.body (retQ E H af.results Q) ⟨enterTm args af.ntmps, H⟩) : ACalls E f args H Q := by
  unfold ACalls
  intro c vs hH hr hg hl
  unfold cFn at hc
  split at hc
  · rename_i cd hb
    split at hc
    · rename_i b rs h1 h2
      split at hc
      · cases hc
      · rename_i hn
        cases hc
        refine Invokes.of_calls hf hb hn (calls_of_wp hf hb ?_)
        have hs : Sim E c ⟨enterTm args fn.ntmps, H⟩ c { tmps := vs.toArray ++ Array.replicate (fn.ntmps - vs.toArray.size) undef, defers := [] } := by
          refine ⟨hH, hr, ⟨?_, ?_⟩, Ext.refl c, hg, rfl⟩
          · simp [enterTm, hl.len]
          · intro j x v hx hv
            simp only [enterTm] at hx
            have hlen := hl.len
            by_cases hj : j < args.length
            · rw [List.getElem?_append_left hj] at hx
              have : (vs.toArray ++ Array.replicate (fn.ntmps - vs.toArray.size) undef)[j]? = vs[j]? := by
                rw [Array.getElem?_append_left (by simpa using (by omega : j < vs.length))]; simp
              rw [this] at hv
              exact hl.at_ j x v hx hv
            · rw [List.getElem?_append_right (by omega)] at hx
              rw [Array.getElem?_append_right (by simpa using (by omega : vs.length ≤ j))] at hv
              have hx' := List.mem_of_getElem? hx
              have hv' := Array.mem_of_getElem? hv
              have e1 := (List.mem_replicate.mp hx').2
              have e2 := (Array.mem_replicate.mp hv').2
              subst e1 e2
              exact .tup [] #[] rfl (fun j x v hx => by simp at hx)
        refine wp_mono (wpc_sound hm ⟨hH, hr⟩ _ _ h1 _ _ _ _ h hs) ?_
        have fin : ∀ (s : St) (d : Cx) (a : Act), retQ E H rs Q .ret s → Sim E c s d a → a.defers = [] ∧ ∃ v, (results fn a.tmps).run E.P d.w = .ok v d.w ∧ ∃ v', Ending.returned v = .returned v' ∧ ∃ d' r, d'.w = d.w ∧ HR d' ∧ Ext c d' ∧ VR d' r v' ∧ Q r d'.H := by
          intro s d a hq hs
          simp only [retQ] at hq
          split at hq
          · rename_i l hl
            obtain ⟨v, e1, e2⟩ := results_run h2 hs hl
            refine ⟨hs.defers, v, e1, v, rfl, ?_⟩
            rw [oneK_eq] at hq
            unfold RetG at hq
            obtain ⟨r', H', hw, hQ⟩ := hq
            unfold WkV at hw
            obtain ⟨d', g1, g2, g3, g4, g5⟩ := hw c d v ⟨hH, hr⟩ hs.ext hs.g hs.H hs.hr e2
            exact ⟨d', r', g1, g3, g4, g5, g2 ▸ hQ⟩
          · exact hq.elim
        intro e a' w' hq
        cases e with
        | normal =>
          obtain ⟨s, d, rfl, hq, hs⟩ := hq
          exact fin s d a' hq hs
        | ret =>
          obtain ⟨s, d, rfl, hq, hs⟩ := hq
          exact fin s d a' hq hs
        | exit i =>
          obtain ⟨s, d, rfl, hq, hs⟩ := hq
          exact hq.elim
        | goto l => obtain ⟨s, d, _, hq, _⟩ := hq; exact hq.elim
        | panic ch => exact hq.elim
        | outgrown => exact hq.elim
    · cases hc
  · cases hc

end
end Ink

namespace Ink
open Go

mutual
/-- no handle at or above n -/
def hb (n : Nat) : AV → Bool
  | .ptr i _ _ => Nat.blt i n
  | .own i _ _ _ _ => Nat.blt i n
  | .ownC i _ _ _ _ _ => Nat.blt i n
  | .map i _ => Nat.blt i n
  | .imm _ l => hbLL n l
  | .pimm l => hbL n l
  | .fn _ a b => hbL n a && hbL n b
  | .iface _ v => hb n v
  | .agg l => hbL n l
  | .tup l => hbL n l
  | _ => true
def hbL (n : Nat) : List AV → Bool
  | [] => true
  | x :: r => hb n x && hbL n r
def hbLL (n : Nat) : List (List AV) → Bool
  | [] => true
  | x :: r => hbL n x && hbLL n r
end

theorem hbL_iff {n : Nat} : ∀ {l : List AV}, hbL n l = true ↔ ∀ x ∈ l, hb n x = true
  | [] => by simp [hbL]
  | x :: r => by simp [hbL, hbL_iff (l := r)]

theorem hbLL_iff {n : Nat} : ∀ {l : List (List AV)}, hbLL n l = true ↔ ∀ x ∈ l, ∀ y ∈ x, hb n y = true
  | [] => by simp [hbLL]
  | x :: r => by simp [hbLL, hbLL_iff (l := r), hbL_iff]

theorem hbLL_flat {n : Nat} {l : List (List AV)} (h : hbLL n l = true) : ∀ y ∈ l.flatten, hb n y = true := by
  intro y hy
  obtain ⟨x, hx, hy⟩ := List.mem_flatten.mp hy
  exact hbLL_iff.mp h x hx y hy

/-- a value with handles below n alone, elsewhere -/
theorem VR.move {c d : Cx} {n : Nat} (size : c.w.heap.size ≤ d.w.heap.size) (same : ∀ x, x < c.w.heap.size → ¬ c.O x → d.w.heap[x]? = c.w.heap[x]?)
    (own : ∀ x, d.O x → c.O x ∨ c.w.heap.size ≤ x) (hn : n ≤ d.H.length) (hθ : ∀ i, i < n → d.θ i = c.θ i) {a : AV} {v : Value} (h : VR c a v) : hb n a = true → VR d a v := by
  induction h with
  | top v => intro _; exact .top v
  | int k n h => intro _; exact .int k n h
  | bool b => intro _; exact .bool b
  | str l s h => intro _; exact .str l s h
  | lit v => intro _; exact .lit v
  | cell1 v h => intro _; exact .cell1 v h
  | ptr i ver off v hv hi hle h =>
    intro hp
    have hi' : i < n := by simpa [hb] using hp
    refine .ptr i ver off v hv (by omega) ?_ ?_ <;> rw [hθ i hi']
    · exact hle
    · exact h
  | own i ver off len sz v hv hi hle h0 h =>
    intro hp
    have hi' : i < n := by simpa [hb] using hp
    refine .own i ver off len sz v hv (by omega) ?_ ?_ ?_ <;> rw [hθ i hi']
    · exact hle
    · exact h0
    · exact h
  | ownC i ver off len cap sz v h hc ih =>
    intro hp
    exact .ownC i ver off len cap sz v (ih (by simpa [hb] using hp)) hc
  | map i ver v hv hi hle h0 h =>
    intro hp
    have hi' : i < n := by simpa [hb] using hp
    refine .map i ver v hv (by omega) ?_ ?_ ?_ <;> rw [hθ i hi']
    · exact hle
    · exact h0
    · exact h
  | immE sz a cap => intro _; exact .immE sz a cap
  | imm sz l a cap f hcap hsz hsc hb' hw hs hcell hrel ih =>
    intro hp
    have hp' := hbLL_flat (n := n) (by simpa [hb] using hp)
    refine .imm sz l a cap f hcap hsz hsc (fun ho => (own _ ho).elim hb' (fun h1 => by omega)) (Nat.lt_of_lt_of_le hw size) hs (fun j hj => ?_) (fun j x hx => ih j x hx (hp' x (List.mem_of_getElem? hx)))
    rw [cell?_of_heap (same _ hw hb')]; exact hcell j hj
  | pimm l a f hsc hb' hw hs hcell hrel ih =>
    intro hp
    have hp' := hbL_iff.mp (by simpa [hb] using hp : hbL n l = true)
    refine .pimm l a f hsc (fun ho => (own _ ho).elim hb' (fun h1 => by omega)) (Nat.lt_of_lt_of_le hw size) hs (fun j hj => ?_) (fun j x hx => ih j x hx (hp' x (List.mem_of_getElem? hx)))
    rw [cell?_of_heap (same _ hw hb')]; exact hcell j hj
  | fn f first cap vf vc hlf hlc hf hc ihf ihc =>
    intro hp
    simp only [hb, Bool.and_eq_true, hbL_iff] at hp
    exact .fn f first cap vf vc hlf hlc (fun j x v hx hv => ihf j x v hx hv (hp.1 x (List.mem_of_getElem? hx))) (fun j x v hx hv => ihc j x v hx hv (hp.2 x (List.mem_of_getElem? hx)))
  | iface t a v h ih => intro hp; exact .iface t a v (ih (by simpa [hb] using hp))
  | agg l vs hsc hl h ih =>
    intro hp
    simp only [hb, hbL_iff] at hp
    exact .agg l vs hsc hl (fun j x v hx hv => ih j x v hx hv (hp x (List.mem_of_getElem? hx)))
  | tup l vs hl h ih =>
    intro hp
    simp only [hb, hbL_iff] at hp
    exact .tup l vs hl (fun j x v hx hv => ih j x v hx hv (hp x (List.mem_of_getElem? hx)))

/-- a call that needs no memory of the caller's, and leaves all as it was -/
@[irreducible] def PCalls (E : Env) (f : FuncId) (args : List AV) (Q : AV → Prop) : Prop :=
  ∀ H, ACalls E f args H fun r H' => Q r ∧ H' = H

def frm (l : List (Nat × Obj)) : List Blk := [⟨0, true, .frame l⟩]

open Classical in
theorem PCalls.mk {E : Env} {f : FuncId} {args : List AV} {Q : AV → Prop} (hp : hbL 0 args = true)
    (h : ∀ l, ACalls E f args (frm l) fun r H' => hb 0 r = true ∧ Q r ∧ H' = frm l) : PCalls E f args Q := by
  unfold PCalls
  intro H
  unfold ACalls at *
  intro c vs hH hr hg hl
  -- the caller's blocks
  let xs := (List.range c.w.heap.size).filter fun x => decide (c.O x)
  have hxs : ∀ x, x ∈ xs ↔ c.O x := fun x => by
    simp only [xs, List.mem_filter, List.mem_range, decide_eq_true_eq]
    exact ⟨fun h => h.2, fun h => ⟨by obtain ⟨i, h1, h2⟩ := h; exact hr.lt i x h1 h2, h⟩⟩
  let l := xs.map fun x => (x, c.w.heap.getD x default)
  have hl1 : l.map (·.1) = xs := by simp [l, Function.comp_def]
  let c' : Cx := { H := frm l, μ := fun _ => none, hid := fun _ => xs, w := c.w }
  have live0 : ∀ i, c'.live i ↔ i = 0 := fun i => by
    cases i with
    | zero => simp [Cx.live, Cx.θ, c', frm]
    | succ i => simp [Cx.live, Cx.θ, c', frm]
  have hO : ∀ x, c'.O x ↔ c.O x := fun x => by
    rw [← hxs]
    constructor
    · rintro ⟨i, h1, h2⟩
      rcases h2 with ⟨l, h2, _⟩ | h2
      · cases h2
      · exact h2
    · intro h
      exact ⟨0, (live0 0).mpr rfl, .inr h⟩
  have hsz : ∀ x, c.O x → x < c.w.heap.size := fun x ⟨i, h1, h2⟩ => hr.lt i x h1 h2
  have hr' : HR c' := by
    constructor
    · intro i b hb hbl
      have := (live0 i).mp (live_of hb hbl)
      subst this
      simp [c', frm] at hb
      subst hb
      refine ⟨rfl, hl1.symm, fun p hp => ?_⟩
      obtain ⟨x, hx, rfl⟩ := List.mem_map.mp hp
      have := hsz x ((hxs x).mp hx)
      simp [c', Array.getD, this]
    · intro i j x hi hj _ _
      rw [(live0 i).mp hi, (live0 j).mp hj]
    · intro i l _ h
      cases h
    · intro i x hi hx
      rcases hx with ⟨l, h2, _⟩ | h2
      · cases h2
      · exact hsz x ((hxs x).mp h2)
  have hg' : GOk E c' := ⟨hg.le, fun x hx => ⟨(hg.at_ x hx).1, fun ho => (hg.at_ x hx).2 ((hO x).mp ho)⟩⟩
  have hl' : LR c' args vs := ⟨hl.len, fun j x v hx hv => (hl.at_ j x v hx hv).move (c := c) (d := c') (n := 0) (Nat.le_refl _) (fun _ _ _ => rfl) (fun x ho => .inl ((hO x).mp ho)) (Nat.zero_le _) (fun i hi => by omega)
    (hbL_iff.mp hp x (List.mem_of_getElem? hx))⟩
  refine (h l c' vs rfl hr' hg' hl').mono fun v w' ⟨d', r, e1, e2, e3, e4, e5, e6, e7⟩ => ?_
  let d : Cx := { c with w := d'.w }
  have hblk := e2.blk 0 ⟨0, true, .frame l⟩ (by rw [e7]; rfl) rfl
  have hdO : ∀ x, c.O x → d'.O x := fun x hx => ⟨0, live_of (by rw [e7]; rfl : d'.H[0]? = some ⟨0, true, .frame l⟩) rfl, .inr (by rw [hblk.2.1, hl1]; exact (hxs x).mpr hx)⟩
  have hsame : ∀ x, c.O x → d.w.heap[x]? = c.w.heap[x]? := fun x hx => by
    have := hblk.2.2 (x, c.w.heap.getD x default) (List.mem_map.mpr ⟨x, (hxs x).mpr hx, rfl⟩)
    rw [show d.w = d'.w from rfl, this]
    have h2 := hsz x hx
    simp [Array.getD, h2]
  have e : Ext c d := {
    n := Nat.le_refl _
    old := fun i v m v' m' h h' => by
      have : d.θ i = c.θ i := rfl
      rw [this, h] at h'; cases h'; exact ⟨Nat.le_refl _, fun _ => rfl⟩
    dead := fun _ _ h => h
    os := e3.os
    tape := e3.tape
    output := e3.output
    size := e3.size
    same := fun x hx ho => e3.same x hx (fun h => ho ((hO x).mp h))
    own := fun x h => .inl h }
  refine ⟨d, r, e1, ?_, e, ?_, e6, hH⟩
  · constructor
    · intro i b hb hbl
      have hli : c.live i := live_of hb hbl
      exact BR_frame e (hr.blk i b hb hbl) (fun l hl => hsame _ ⟨i, hli, .inl ⟨l, hl, rfl⟩⟩) (fun x hx => hsame x ⟨i, hli, .inr hx⟩)
    · exact hr.inj
    · exact hr.hid
    · intro i x h1 h2
      exact Nat.lt_of_lt_of_le (hr.lt i x h1 h2) e3.size
  · exact e4.move (c := d') (d := d) (n := 0) (Nat.le_refl _) (fun _ _ _ => rfl) (fun x hx => .inl (hdO x hx)) (Nat.zero_le _) (fun i hi => by omega) e5

theorem PCalls.mono {E : Env} {f : FuncId} {args : List AV} {Q Q' : AV → Prop} (h : PCalls E f args Q) (hq : ∀ r, Q r → Q' r) : PCalls E f args Q' := by
  unfold PCalls at *
  exact fun H => (h H).mono fun r H' ⟨a, b⟩ => ⟨hq r a, b⟩

/-! calls, loops, returns -/
section
variable {E : Env} {n0 : List Blk}

theorem CallG.a {f : FuncId} {first args cap : List AV} {s : St} {K : AV → St → Prop} (h : ACalls E f (first ++ args ++ cap) s.H fun r H' => K r ⟨s.tm, H'⟩) : CallG E n0 (.fn (.func f) first cap) args s K := by
  unfold CallG
  exact ⟨f, first, cap, s, _, rfl, WkL.refl _ _, h⟩

theorem CallG.p {f : FuncId} {first args cap : List AV} {s : St} {K : AV → St → Prop} {Q : AV → Prop} (h : PCalls E f (first ++ args ++ cap) Q) (k : ∀ v, Q v → K v s) : CallG E n0 (.fn (.func f) first cap) args s K := by
  unfold PCalls at h
  refine CallG.a ((h s.H).mono fun _ _ ⟨h1, h2⟩ => ?_)
  subst h2
  exact k _ h1

theorem CallG.e {f : FuncId} {first args cap : List AV} {s : St} {K : AV → St → Prop} {v : AV} (h : PCalls E f (first ++ args ++ cap) (· = v)) (k : K v s) : CallG E n0 (.fn (.func f) first cap) args s K :=
  CallG.p h fun r hr => hr ▸ k

theorem CallD.e {f : FuncId} {first args cap : List AV} {s : St} {K : AV → St → Prop} {v : AV} (h : PCalls E f (first ++ args ++ cap) (· = v)) (k : K v s) : CallD E (.fn (.func f) first cap) args s K := by
  unfold PCalls at h
  unfold CallD
  exact ⟨f, first, cap, v, s.H, rfl, h s.H, k⟩

theorem CallQ.e {f : FuncId} {first args cap : List AV} {s : St} {K : AV → St → Prop} {v : AV} (h : PCalls E f (first ++ args ++ cap) (· = v)) (k : K v s) : CallQ E (.fn (.func f) first cap) args s K := by
  unfold PCalls at h
  unfold CallQ
  exact ⟨f, first, cap, v, rfl, fun X => h (s.H ++ X), k⟩

theorem CallP.e {f : FuncId} {first args cap : List AV} {s : St} {K : AV → St → Prop} {v : AV} (h : PCalls E f (first ++ args ++ cap) (· = v)) (k : K v s) : CallP E (.fn (.func f) first cap) args s K := by
  unfold PCalls at h
  unfold CallP
  exact ⟨f, first, cap, v, rfl, fun H => h H, k⟩

theorem WkV.refl {r : AV} {H : List Blk} : WkV E n0 r H r H := by
  unfold WkV
  intro c0 c v _ he hg hH hr hv
  exact ⟨c, rfl, hH, hr, he, hv⟩

theorem RetG.q {r : AV} {H : List Blk} {Q : AV → List Blk → Prop} (h : Q r H) : RetG E n0 r H Q := by
  unfold RetG
  exact ⟨r, H, WkV.refl, h⟩

/-- some slots known -/
def slots : Nat → List (Nat × AV) → List AV
  | n, l => go n l 0
where
  go : Nat → List (Nat × AV) → Nat → List AV
  | 0, _, _ => []
  | n + 1, l, i => at_ l i :: go n l (i + 1)
  at_ : List (Nat × AV) → Nat → AV
  | [], _ => .top
  | (j, v) :: r, i => match Nat.beq j i with
    | true => v
    | false => at_ r i

def Has (tm : List AV) : List (Nat × AV) → Prop
  | [] => True
  | [(i, v)] => getK tm i = some v
  | (i, v) :: r => getK tm i = some v ∧ Has tm r

theorem has_mem {tm : List AV} : ∀ {l : List (Nat × AV)}, Has tm l → ∀ p ∈ l, tm[p.1]? = some p.2
  | [], _, p, h => by simp at h
  | [(i, v)], h, p, hp => by
    simp at hp; subst hp
    simp only [Has] at h
    rwa [getK_eq] at h
  | (i, v) :: q :: r, h, p, hp => by
    rcases List.mem_cons.mp hp with hp | hp
    · subst hp; have := h.1; rwa [getK_eq] at this
    · exact has_mem h.2 p hp

theorem slots_at (l : List (Nat × AV)) (i : Nat) : slots.at_ l i = .top ∨ ∃ p ∈ l, p.1 = i ∧ slots.at_ l i = p.2 := by
  induction l with
  | nil => exact .inl rfl
  | cons p r ih =>
    obtain ⟨j, v⟩ := p
    simp only [slots.at_]
    split
    · rename_i h
      exact .inr ⟨(j, v), by simp, Nat.eq_of_beq_eq_true h, rfl⟩
    · rcases ih with ih | ⟨p, hp, h1, h2⟩
      · exact .inl ih
      · exact .inr ⟨p, by simp [hp], h1, h2⟩

theorem slots_go (l : List (Nat × AV)) : ∀ (n k : Nat), (slots.go n l k).length = n ∧ ∀ i, i < n → (slots.go n l k)[i]? = some (slots.at_ l (k + i))
  | 0, k => ⟨rfl, fun i hi => by omega⟩
  | n + 1, k => by
    obtain ⟨h1, h2⟩ := slots_go l n (k + 1)
    refine ⟨by simp [slots.go, h1], fun i hi => ?_⟩
    cases i with
    | zero => simp [slots.go]
    | succ i => simp only [slots.go, List.getElem?_cons_succ]; rw [h2 i (by omega)]; congr 2; omega

theorem TR.slots {c : Cx} {tm : List AV} {tmps : Array Value} (h : TR c tm tmps) {l : List (Nat × AV)} (hl : Has tm l) {n : Nat} (hn : lenK tm = n) : TR c (slots n l) tmps := by
  rw [lenK_eq] at hn
  obtain ⟨h1, h2⟩ := slots_go l n 0
  refine ⟨by show (slots.go n l 0).length = _; rw [h1, ← hn]; exact h.len, fun t x v hx hv => ?_⟩
  have ht : t < n := by
    rw [← h1]
    rcases Nat.lt_or_ge t (slots.go n l 0).length with h' | h'
    · exact h'
    · rw [show (Ink.slots n l) = slots.go n l 0 from rfl, List.getElem?_eq_none h'] at hx; cases hx
  rw [show (Ink.slots n l) = slots.go n l 0 from rfl, h2 t ht, Nat.zero_add] at hx
  cases hx
  rcases slots_at l t with h3 | ⟨p, hp, h3, h4⟩
  · rw [h3]; exact .top v
  · rw [h4]
    have := has_mem hl p hp
    rw [h3] at this
    exact h.at_ t _ v this hv

theorem Wk.slots {tm : List AV} {H : List Blk} {l : List (Nat × AV)} {n : Nat} (hn : lenK tm = n) (hl : Has tm l) : Wk E n0 ⟨tm, H⟩ ⟨slots n l, H⟩ := by
  unfold Wk
  intro c0 c a _ hs
  exact ⟨c, rfl, ⟨hs.H, hs.hr, hs.tr.slots hl hn, hs.ext, hs.g, hs.defers⟩⟩

/-- the same, forced -/
def slotsK {β : Type} : Nat → List (Nat × AV) → Nat → (List AV → β) → β
  | 0, _, _, K => K []
  | n + 1, l, i, K => fv (slots.at_ l i) fun v => slotsK n l (i + 1) fun r => K (v :: r)

theorem slotsK_eq {β : Type} : ∀ (n : Nat) (l : List (Nat × AV)) (i : Nat) (K : List AV → β), slotsK n l i K = K (slots.go n l i)
  | 0, _, _, _ => rfl
  | n + 1, l, i, K => by simp only [slotsK, fv_eq, slotsK_eq n l (i + 1), slots.go]

theorem LoopG.s {body : (Ex → St → Prop) → St → Prop} {Q : Ex → St → Prop} {tm : List AV} {H0 : List Blk} {α : Type} (Inv : α → Prop) (n : Nat) (l : α → List (Nat × AV)) (H : α → List Blk) (m : α → Nat) (x0 : α) (hi : Inv x0)
    (hn : lenK tm = n) (h0 : Has tm (l x0)) (hH : H0 = H x0)
    (h : ∀ x, Inv x → slotsK n (l x) 0 fun tm => body (fun e s' => match e with
      | .normal => ∃ x', (Inv x' ∧ m x' < m x) ∧ Wk E n0 s' ⟨slots n (l x'), H x'⟩
      | e => Q e s') ⟨tm, H x⟩) : LoopG E n0 body Q ⟨tm, H0⟩ := by
  unfold LoopG
  subst hH
  refine ⟨{x // Inv x}, fun x => ⟨Ink.slots n (l x.1), H x.1⟩, fun x => m x.1, ⟨x0, hi⟩, Wk.slots hn h0, fun x => ?_⟩
  have := h x.1 x.2
  rw [slotsK_eq] at this
  have hq : (fun (e : Ex) (s' : St) => match e with
      | .normal => ∃ x' : {x // Inv x}, Wk E n0 s' ⟨Ink.slots n (l x'.1), H x'.1⟩ ∧ m x'.1 < m x.1
      | e => Q e s') = (fun e s' => match e with
      | .normal => ∃ x', (Inv x' ∧ m x' < m x.1) ∧ Wk E n0 s' ⟨Ink.slots n (l x'), H x'⟩
      | e => Q e s') := by
    funext e s'
    cases e with
    | normal => exact propext ⟨fun ⟨x', h1, h2⟩ => ⟨x'.1, ⟨x'.2, h2⟩, h1⟩, fun ⟨x', ⟨h1, h2⟩, h3⟩ => ⟨⟨x', h1⟩, h3, h2⟩⟩
    | exit i => rfl
    | ret => rfl
    | goto k => rfl
  exact (congrArg (fun q => body q ⟨Ink.slots n (l x.1), H x.1⟩) hq).mpr this
end

/-! bytes -/
theorem zEq (c : UInt8) (n : Nat) (h : n < 256) : ((c.toNat : Int) = (no_index (OfNat.ofNat n) : Int)) ↔ c = (OfNat.ofNat n : UInt8) := by
  rw [← UInt8.toNat_inj]
  have : (OfNat.ofNat n : UInt8).toNat = n := by
    show (UInt8.ofNat n).toNat = n
    simp [Nat.mod_eq_of_lt h]
  rw [this]
  show (c.toNat : Int) = (n : Int) ↔ _
  omega

theorem zEq0 (c : UInt8) : c.toNat = 0 ↔ c = 0 := by
  rw [← UInt8.toNat_inj]; rfl

end Ink

namespace Ink
open Go

def hbKV (n : Nat) : List (AV × AV) → Bool
  | [] => true
  | (a, b) :: r => hb n a && hb n b && hbKV n r

theorem hbKV_iff {n : Nat} : ∀ {l : List (AV × AV)}, hbKV n l = true ↔ ∀ x ∈ l, hb n x.1 = true ∧ hb n x.2 = true
  | [] => by simp [hbKV]
  | (a, b) :: r => by simp [hbKV, hbKV_iff (l := r), and_assoc]

/-- no handle at or above n in a block -/
def hbB (n : Nat) (b : Blk) : Bool :=
  match b.k with
  | .cells _ c => hbL n c
  | .map kv => hbKV n kv
  | _ => true

def hbH (n : Nat) : List Blk → Bool
  | [] => true
  | b :: r => hbB n b && hbH n r

theorem hbH_iff {n : Nat} : ∀ {l : List Blk}, hbH n l = true ↔ ∀ x ∈ l, hbB n x = true
  | [] => by simp [hbH]
  | b :: r => by simp [hbH, hbH_iff (l := r)]

def Cx.cut (c : Cx) (n : Nat) : Cx := { c with H := c.H.take n }

theorem cut_θ (c : Cx) {n i : Nat} (h : i < n) : (c.cut n).θ i = c.θ i := by
  simp only [Cx.θ, Cx.cut, List.getElem?_take, h, if_true]

theorem cut_live {c : Cx} {n i : Nat} (h : (c.cut n).live i) : i < n ∧ c.live i := by
  have hi : i < n := by
    simp only [Cx.live, Cx.θ, Cx.cut, List.getElem?_take] at h
    rcases Nat.lt_or_ge i n with h' | h'
    · exact h'
    · simp [Nat.not_lt.mpr h'] at h
  refine ⟨hi, ?_⟩
  simpa [Cx.live, cut_θ c hi] using h

theorem cut_O {c : Cx} {n x : Nat} (h : (c.cut n).O x) : c.O x := by
  obtain ⟨i, h1, h2⟩ := h
  exact ⟨i, (cut_live h1).2, h2⟩

theorem VR.cut {c : Cx} {n : Nat} (hn : n ≤ c.H.length) {a : AV} {v : Value} (h : VR c a v) (hh : hb n a = true) : VR (c.cut n) a v :=
  VR.move (c := c) (d := c.cut n) (n := n) (Nat.le_refl _) (fun _ _ _ => rfl) (fun _ ho => .inl (cut_O ho)) (by simp [Cx.cut]; omega) (fun _ hi => cut_θ c hi) h hh

theorem HR.cut {c : Cx} {n : Nat} (hr : HR c) (hn : n ≤ c.H.length) (hh : hbH n (c.H.take n) = true) : HR (c.cut n) := by
  constructor
  · intro i b hb hl
    have hb' : (c.H.take n)[i]? = some b := hb
    have hbm := hbH_iff.mp hh b (List.mem_of_getElem? hb')
    have hcb : c.H[i]? = some b := by
      rw [List.getElem?_take] at hb'
      split at hb'
      · exact hb'
      · cases hb'
    have B := hr.blk i b hcb hl
    show BR (c.cut n) (c.μ i) (c.hid i) b.k
    cases hk : b.k with
    | cells typ l =>
      rw [hk] at B
      obtain ⟨h1, h2, h3⟩ := B
      simp only [hbB, hk] at hbm
      have hbm := hbL_iff.mp hbm
      refine ⟨h1, h2, ?_⟩
      cases hm : c.μ i with
      | none => rw [hm] at h3; exact h3
      | some p =>
        rw [hm] at h3
        obtain ⟨cs, fr, g1, g2, g3, g4, g5⟩ := h3
        exact ⟨cs, fr, g1, g2, g3, fun j x hx => let ⟨v, a, b⟩ := g4 j x hx; ⟨v, a, b.cut hn (hbm x (List.mem_of_getElem? hx))⟩, g5⟩
    | bld T e bs => rw [hk] at B; exact B
    | map kv =>
      rw [hk] at B
      obtain ⟨h1, h2, h3⟩ := B
      simp only [hbB, hk] at hbm
      have hbm := hbKV_iff.mp hbm
      refine ⟨h1, h2, ?_⟩
      cases hm : c.μ i with
      | none => rw [hm] at h3; exact h3
      | some p =>
        rw [hm] at h3
        obtain ⟨es, clk, g1, g2, g3, g4⟩ := h3
        exact ⟨es, clk, g1, g2, fun j x en hx hen => ⟨(g3 j x en hx hen).1.cut hn (hbm x (List.mem_of_getElem? hx)).1, (g3 j x en hx hen).2.cut hn (hbm x (List.mem_of_getElem? hx)).2⟩, g4⟩
    | frame l => rw [hk] at B; exact B
  · intro i j x hi hj
    exact hr.inj i j x (cut_live hi).2 (cut_live hj).2
  · intro i l hi
    exact hr.hid i l (cut_live hi).2
  · intro i x hi
    exact hr.lt i x (cut_live hi).2

theorem Ext.cut {c0 c : Cx} {n : Nat} (e : Ext c0 c) (hn : c0.H.length = n) : Ext c0 (c.cut n) where
  n := by have := e.n; simp [Cx.cut]; omega
  old := fun i v m v' m' h h' => e.old i v m v' m' h (by rw [cut_θ c (hn ▸ θ_lt h)] at h'; exact h')
  dead := fun i hi h => by rw [cut_θ c (hn ▸ hi)]; exact e.dead i hi h
  os := e.os
  tape := e.tape
  output := e.output
  size := e.size
  same := e.same
  own := fun x h => e.own x (cut_O h)

/-- what a value becomes where nobody may change its memory any more -/
inductive Pub (H : List Blk) (n : Nat) : AV → AV → Prop where
  | same (a : AV) (h : hb n a = true) : Pub H n a a
  | nil (z k : Nat) : Pub H n (.lit (.slice none 0 k)) (.imm z [])
  | own (i ver off len sz : Nat) (t : TypeId) (cs : List AV) (l : List (List AV)) (hl : liveCells H i ver = some (t, cs)) (hi : n ≤ i) (hlen : l.length = len) (hsz : ∀ x ∈ l, x.length = sz) (hsc : ∀ x ∈ l.flatten, sc x = true)
      (hle : off + l.flatten.length ≤ cs.length) (hp : ∀ (j : Nat) (x y : AV), l.flatten[j]? = some x → cs[off + j]? = some y → Pub H n y x) : Pub H n (.own i ver off len sz) (.imm sz l)
  | ptr (i ver off : Nat) (t : TypeId) (cs l : List AV) (hl : liveCells H i ver = some (t, cs)) (hi : n ≤ i) (hsc : ∀ x ∈ l, sc x = true)
      (hle : off + l.length ≤ cs.length) (hp : ∀ (j : Nat) (x y : AV), l[j]? = some x → cs[off + j]? = some y → Pub H n y x) : Pub H n (.ptr i ver off) (.pimm l)
  | agg (l m : List AV) (hlen : l.length = m.length) (hsc : ∀ x ∈ m, sc x = true) (hp : ∀ (j : Nat) (x y : AV), l[j]? = some x → m[j]? = some y → Pub H n x y) : Pub H n (.agg l) (.agg m)
  | tup (l m : List AV) (hlen : l.length = m.length) (hp : ∀ (j : Nat) (x y : AV), l[j]? = some x → m[j]? = some y → Pub H n x y) : Pub H n (.tup l) (.tup m)
  | iface (t : TypeId) (x y : AV) (hp : Pub H n x y) : Pub H n (.iface t x) (.iface t y)
  | imm (z : Nat) (l m : List (List AV)) (hl : l.length = m.length) (hf : l.flatten.length = m.flatten.length) (hsz : ∀ x ∈ m, x.length = z) (hsc : ∀ x ∈ m.flatten, sc x = true)
      (hp : ∀ (j : Nat) (x y : AV), l.flatten[j]? = some x → m.flatten[j]? = some y → Pub H n x y) : Pub H n (.imm z l) (.imm z m)

theorem Pub.vr {c : Cx} {n : Nat} (hr : HR c) (hn : n ≤ c.H.length) {a b : AV} (hp : Pub c.H n a b) : ∀ {v : Value}, VR c a v → VR (c.cut n) b v := by
  have notO : ∀ {i ver : Nat} {t : TypeId} {cs : List AV} {l : Loc}, liveCells c.H i ver = some (t, cs) → n ≤ i → c.μ i = some l → ¬ (c.cut n).O l.b := by
    intro i ver t cs l hl hi hμ ho
    obtain ⟨j, h1, h2⟩ := ho
    obtain ⟨h3, h4⟩ := cut_live h1
    have := hr.inj i j l.b (live_of (liveCells_some hl) rfl) h4 (.inl ⟨l, hμ, rfl⟩) h2
    omega
  induction hp with
  | same a h => intro v hv; exact hv.cut hn h
  | nil z k => intro v hv; cases hv; exact .immE z none k
  | own i ver off len sz t cs l hl hi hlen hsz hsc hle' hp ih =>
    intro v hv
    have hb := liveCells_some hl
    have hθ := θ_of hb
    cases hv with
    | own _ _ _ _ _ _ hv hi' hle h0 h1 =>
      cases hμ : c.μ i with
      | none =>
        obtain ⟨rfl, h3, _⟩ := h0 (by rw [hθ, hμ])
        have : l = [] := List.eq_nil_of_length_eq_zero (by omega)
        subst this
        exact .immE _ _ _
      | some p =>
        obtain ⟨a, cap, rfl, g1, g2, g3⟩ := h1 p (by rw [hθ, hμ])
        by_cases hcap : cap = 0
        · have : l = [] := List.eq_nil_of_length_eq_zero (by omega)
          subst this
          rw [hcap] at g1
          obtain rfl : len = 0 := by omega
          exact .immE _ _ _
        · have ha := g2 hcap
          subst ha
          obtain ⟨vs, fr, k1, k2, k3, k4, k5, k6⟩ := blk_cells hr hb hμ
          rw [← hlen]
          refine .imm sz l _ cap (fun j => (c.w.cell? ⟨p.b, p.base + off + j, none⟩).getD undef) (by omega) hsz hsc (notO hl hi hμ) ?_ rfl ?_ ?_
          · exact hr.lt i p.b (live_of hb rfl) (.inl ⟨p, hμ, rfl⟩)
          · intro j hj
            have hy := List.getElem?_eq_getElem (l := cs) (i := off + j) (by omega)
            obtain ⟨u, hu, _⟩ := k5 _ _ hy
            have : c.w.cell? ⟨p.b, p.base + off + j, none⟩ = some u := by rw [cell_heap k1, ← hu]; congr 1; omega
            show c.w.cell? _ = _
            rw [this]; rfl
          · intro j x hx
            have hj := getElem?_lt hx
            have hy := List.getElem?_eq_getElem (l := cs) (i := off + j) (by omega)
            obtain ⟨u, hu, hvr⟩ := k5 _ _ hy
            have : c.w.cell? ⟨p.b, p.base + off + j, none⟩ = some u := by rw [cell_heap k1, ← hu]; congr 1; omega
            rw [this]
            exact ih j x _ hx hy hvr
  | ptr i ver off t cs l hl hi hsc hle' hp ih =>
    intro v hv
    have hb := liveCells_some hl
    obtain ⟨p, hμ, rfl⟩ := ptr_at hv hb
    obtain ⟨vs, fr, k1, k2, k3, k4, k5, k6⟩ := blk_cells hr hb hμ
    refine .pimm l _ (fun j => (c.w.cell? ⟨p.b, p.base + off + j, none⟩).getD undef) hsc (notO hl hi hμ) ?_ rfl ?_ ?_
    · exact hr.lt i p.b (live_of hb rfl) (.inl ⟨p, hμ, rfl⟩)
    · intro j hj
      have hy := List.getElem?_eq_getElem (l := cs) (i := off + j) (by omega)
      obtain ⟨u, hu, _⟩ := k5 _ _ hy
      have : c.w.cell? ⟨p.b, p.base + off + j, none⟩ = some u := by rw [cell_heap k1, ← hu]; congr 1; omega
      show c.w.cell? _ = _
      rw [this]; rfl
    · intro j x hx
      have hj := getElem?_lt hx
      have hy := List.getElem?_eq_getElem (l := cs) (i := off + j) (by omega)
      obtain ⟨u, hu, hvr⟩ := k5 _ _ hy
      have : c.w.cell? ⟨p.b, p.base + off + j, none⟩ = some u := by rw [cell_heap k1, ← hu]; congr 1; omega
      rw [this]
      exact ih j x _ hx hy hvr
  | agg l m hlen hsc hp ih =>
    intro v hv
    cases hv with
    | agg _ vs _ hl h =>
      refine .agg m vs hsc (hlen.symm.trans hl) fun j y u hy hu => ?_
      have hj : j < l.length := by rw [hlen]; exact getElem?_lt hy
      exact ih j _ y (List.getElem?_eq_getElem hj) hy (h j _ u (List.getElem?_eq_getElem hj) hu)
  | tup l m hlen hp ih =>
    intro v hv
    cases hv with
    | tup _ vs hl h =>
      refine .tup m vs (hlen.symm.trans hl) fun j y u hy hu => ?_
      have hj : j < l.length := by rw [hlen]; exact getElem?_lt hy
      exact ih j _ y (List.getElem?_eq_getElem hj) hy (h j _ u (List.getElem?_eq_getElem hj) hu)
  | iface t x y hp ih =>
    intro v hv
    cases hv with
    | iface _ _ u h => exact .iface t y u (ih h)
  | imm z l m hl hf hsz hsc hp ih =>
    intro v hv
    cases hv with
    | immE _ a cap =>
      obtain rfl : m = [] := List.eq_nil_of_length_eq_zero (by simpa using hl.symm)
      exact .immE z a cap
    | imm _ _ a cap f hcap _ _ hb hw hs hcell hrel =>
      rw [hl]
      refine .imm z m a cap f (hl ▸ hcap) hsz hsc (fun ho => hb (cut_O ho)) hw hs (fun j hj => hcell j (by omega)) (fun j y hy => ?_)
      have hj : j < l.flatten.length := by rw [hf]; exact getElem?_lt hy
      exact ih j _ y (List.getElem?_eq_getElem hj) hy (hrel j _ (List.getElem?_eq_getElem hj))

section
variable {E : Env} {n0 : List Blk}
/-- the callee's own memory is let go -/
theorem RetG.pub {r r' : AV} {H H' : List Blk} {Q : AV → List Blk → Prop} (hp : Pub H (lenK n0) r r') (hH' : takeK (lenK n0) H id = H') (hh : hbH (lenK n0) H' = true) (h : Q r' H') : RetG E n0 r H Q := by
  rw [takeK_eq, lenK_eq] at hH'
  rw [lenK_eq] at hp hh
  unfold RetG
  refine ⟨r', H', ?_, h⟩
  unfold WkV
  intro c0 c v hn he hg hcH hr hv
  have hlen : c0.H.length = n0.length := by rw [hn.1]
  have hle : n0.length ≤ c.H.length := hlen ▸ he.n
  have hcut : c.H.take n0.length = H' := by rw [hcH]; exact hH'
  exact ⟨c.cut n0.length, rfl, hcut, hr.cut hle (by rw [hcut]; exact hh), he.cut hlen, Pub.vr hr hle (hcH ▸ hp) hv⟩

theorem RetG.drop {r : AV} {H H' : List Blk} {Q : AV → List Blk → Prop} (hr : hb (lenK n0) r = true) (hH' : takeK (lenK n0) H id = H') (hh : hbH (lenK n0) H' = true) (h : Q r H') : RetG E n0 r H Q :=
  RetG.pub (.same _ hr) hH' hh h
end
end Ink

namespace Ink
open Go

/-- no handles in a block -/
def bkFree (k : BK) : Bool := hbB 0 ⟨0, true, k⟩

/-- an argument, as the callee sees it: its blocks are numbered from 1 on -/
inductive Ren (sel : List (Nat × Nat)) : AV → AV → Prop where
  | same (a : AV) (h : hb 0 a = true) : Ren sel a a
  | ptr (j i v off : Nat) (h : sel[j]? = some (i, v)) : Ren sel (.ptr (j + 1) 0 off) (.ptr i v off)
  | fn (f : Fn) (a b a' b' : List AV) (hl : a.length = a'.length) (hl' : b.length = b'.length) (ha : ∀ (j : Nat) (x y : AV), a[j]? = some x → a'[j]? = some y → Ren sel x y)
      (hb : ∀ (j : Nat) (x y : AV), b[j]? = some x → b'[j]? = some y → Ren sel x y) : Ren sel (.fn f a b) (.fn f a' b')
  | pimm (a a' : List AV) (hl : a.length = a'.length) (hsc : ∀ x ∈ a, sc x = true) (ha : ∀ (j : Nat) (x y : AV), a[j]? = some x → a'[j]? = some y → Ren sel x y) : Ren sel (.pimm a) (.pimm a')

def blkOf (k : BK) : Blk := ⟨0, true, k⟩

def putB : List Blk → List (Nat × Nat) → List BK → List Blk
  | H, (i, v) :: sel, k :: ks => putB (setK H i ⟨v, true, k⟩ id) sel ks
  | H, _, _ => H

theorem putB_length : ∀ (sel : List (Nat × Nat)) (ks : List BK) (H : List Blk), (putB H sel ks).length = H.length
  | [], _, _ => by simp [putB]
  | _ :: _, [], _ => by simp [putB]
  | (i, v) :: sel, k :: ks, H => by simp only [putB]; rw [putB_length sel ks]; simp [setK_eq]

theorem putB_ne : ∀ (sel : List (Nat × Nat)) (ks : List BK) (H : List Blk) (i : Nat), i ∉ sel.map (·.1) → (putB H sel ks)[i]? = H[i]?
  | [], _, _, _, _ => by simp [putB]
  | _ :: _, [], _, _, _ => by simp [putB]
  | (i', v) :: sel, k :: ks, H, i, h => by
    simp only [putB]
    simp only [List.map_cons, List.mem_cons, not_or] at h
    rw [putB_ne sel ks _ i h.2, setK_eq]
    simp only [id]
    rw [List.getElem?_set, if_neg (Ne.symm h.1)]

theorem putB_at : ∀ (sel : List (Nat × Nat)) (ks : List BK) (H : List Blk), (sel.map (·.1)).Nodup → sel.length = ks.length → (∀ (j i v : Nat), sel[j]? = some (i, v) → i < H.length) → ∀ (j i v : Nat) (k : BK), sel[j]? = some (i, v) → ks[j]? = some k → (putB H sel ks)[i]? = some ⟨v, true, k⟩
  | [], _, _, _, _, _, j, i, v, k, h, _ => by simp at h
  | _ :: _, [], _, _, _, _, j, i, v, k, _, h => by simp at h
  | (i', v') :: sel, k' :: ks, H, hn, hl, hlt, j, i, v, k, hs, hk => by
    simp only [putB]
    simp only [List.map_cons, List.nodup_cons] at hn
    have hlt' : ∀ (j i v : Nat), sel[j]? = some (i, v) → i < (setK H i' ⟨v', true, k'⟩ id).length := fun j i v h => by rw [setK_eq]; simpa using hlt (j + 1) i v (by simpa using h)
    cases j with
    | zero =>
      simp at hs hk
      obtain ⟨rfl, rfl⟩ := hs
      subst hk
      rw [putB_ne sel ks _ _ hn.1, setK_eq]
      simp only [id]
      rw [List.getElem?_set_self (hlt 0 i' v' (by simp))]
    | succ j =>
      simp at hs hk
      exact putB_at sel ks _ hn.2 (by simpa using hl) hlt' j i v k hs hk

/-- a value moves with its blocks -/
theorem Ren.vr {c d : Cx} {sel : List (Nat × Nat)} (size : c.w.heap.size ≤ d.w.heap.size) (same : ∀ x, x < c.w.heap.size → ¬ c.O x → d.w.heap[x]? = c.w.heap[x]?)
    (own : ∀ x, d.O x → c.O x ∨ c.w.heap.size ≤ x) (hθ : ∀ (j i v : Nat), sel[j]? = some (i, v) → c.θ i = some (v, c.μ i) ∧ d.θ (j + 1) = some (0, c.μ i))
    {a0 a : AV} (h : Ren sel a0 a) : ∀ {v : Value}, VR c a v → VR d a0 v := by
  induction h with
  | same a h => intro v hv; exact VR.move (c := c) (d := d) (n := 0) size same own (Nat.zero_le _) (fun i hi => by omega) hv h
  | ptr j i ver off h =>
    intro v hv
    obtain ⟨h1, h2⟩ := hθ j i ver h
    cases hv with
    | ptr _ _ _ _ hv hi hle hp =>
      refine .ptr _ _ _ _ hv (θ_lt h2) (fun v0 m hm => by omega) (fun m hm => ?_)
      rw [h2] at hm
      cases hm
      exact hp _ h1
  | fn f a b a' b' hl hl' ha hb iha ihb =>
    intro v hv
    cases hv with
    | fn _ _ _ vf vc hlf hlc hf hc =>
      refine .fn f a b vf vc (hl.trans hlf) (hl'.trans hlc) (fun j x u hx hu => ?_) (fun j x u hx hu => ?_)
      · have hj := getElem?_lt hx
        have hy := List.getElem?_eq_getElem (l := a') (i := j) (by omega)
        exact iha j x _ hx hy (hf j _ u hy hu)
      · have hj := getElem?_lt hx
        have hy := List.getElem?_eq_getElem (l := b') (i := j) (by omega)
        exact ihb j x _ hx hy (hc j _ u hy hu)
  | pimm a a' hl hsc ha ih =>
    intro v hv
    cases hv with
    | pimm _ p f _ hb' hw hs hcell hrel =>
      refine .pimm a p f hsc (fun ho => (own _ ho).elim hb' (fun h1 => by omega)) (Nat.lt_of_lt_of_le hw size) hs (fun j hj => ?_) (fun j x hx => ?_)
      · rw [cell?_of_heap (same _ hw hb')]; exact hcell j (by omega)
      · have hj := getElem?_lt hx
        have hy := List.getElem?_eq_getElem (l := a') (i := j) (by omega)
        exact ih j x _ hx hy (hrel j _ hy)

/-- a block without handles, elsewhere -/
theorem BR.free {c d : Cx} {m : Option Loc} {hid : List Nat} {k : BK} (hf : bkFree k = true) (mv : ∀ (a : AV) (v : Value), hb 0 a = true → VR c a v → VR d a v) (h : BR c m hid k)
    (hm : ∀ l, m = some l → d.w.heap[l.b]? = c.w.heap[l.b]?) (hh : ∀ x ∈ hid, d.w.heap[x]? = c.w.heap[x]?) : BR d m hid k := by
  cases k with
  | cells typ l =>
    obtain ⟨h1, h2, h3⟩ := h
    have hf' := hbL_iff.mp (by simpa [bkFree, hbB] using hf : hbL 0 l = true)
    refine ⟨h1, h2, ?_⟩
    cases m with
    | none => exact h3
    | some p =>
      obtain ⟨cs, fr, g1, g2, g3, g4, g5⟩ := h3
      exact ⟨cs, fr, (hm p rfl).trans g1, g2, g3, fun j x hx => let ⟨v, a, b⟩ := g4 j x hx; ⟨v, a, mv x v (hf' x (List.mem_of_getElem? hx)) b⟩, g5⟩
  | bld T e' bs =>
    cases m with
    | none => exact h
    | some p =>
      obtain ⟨h1, h2, q, v, fr, g1, gf, g2, g3⟩ := h
      refine ⟨h1, h2, q, v, fr, (hm p rfl).trans g1, gf, g2, ?_⟩
      rcases g3 with g3 | ⟨x, base, cap, e1, e2, e3, e4⟩
      · exact .inl g3
      · exact .inr ⟨x, base, cap, e1, e2, e3, bytesAt_frame e4 (hh x (by simp [e1]))⟩
  | map kv =>
    obtain ⟨h1, h2, h3⟩ := h
    have hf' := hbKV_iff.mp (by simpa [bkFree, hbB] using hf : hbKV 0 kv = true)
    refine ⟨h1, h2, ?_⟩
    cases m with
    | none => exact h3
    | some p =>
      obtain ⟨es, clk, g1, g2, g3, g4⟩ := h3
      exact ⟨es, clk, (hm p rfl).trans g1, g2, fun j x en hx hen => ⟨mv _ _ (hf' x (List.mem_of_getElem? hx)).1 (g3 j x en hx hen).1, mv _ _ (hf' x (List.mem_of_getElem? hx)).2 (g3 j x en hx hen).2⟩, g4⟩
  | frame l =>
    obtain ⟨h1, h2, h3⟩ := h
    exact ⟨h1, h2, fun p hp => by rw [hh p.1 (by rw [h2]; exact List.mem_map_of_mem hp)]; exact h3 p hp⟩

/-- a contract over some blocks of the caller's, the rest behind a frame -/
@[irreducible] def BCalls (E : Env) (f : FuncId) (args : List AV) (ks : List BK) (Q : AV → List BK → Prop) : Prop :=
  ∀ l, ACalls E f args (⟨0, true, .frame l⟩ :: ks.map blkOf) fun r H' => hb 0 r = true ∧ ∃ ks', H' = ⟨0, true, .frame l⟩ :: ks'.map blkOf ∧ ks'.length = ks.length ∧ (ks'.all bkFree) = true ∧ Q r ks'

open Classical in
theorem BCalls.lift {E : Env} {f : FuncId} {args0 args : List AV} {ks : List BK} {Q : AV → List BK → Prop} (h : BCalls E f args0 ks Q) (sel : List (Nat × Nat)) (hnd : (sel.map (·.1)).Nodup) (hlen : sel.length = ks.length) (hks : (ks.all bkFree) = true)
    (hal : args0.length = args.length) (hren : ∀ (j : Nat) (x y : AV), args0[j]? = some x → args[j]? = some y → Ren sel x y) {H : List Blk}
    (hH : ∀ (j i v : Nat) (k : BK), sel[j]? = some (i, v) → ks[j]? = some k → H[i]? = some ⟨v, true, k⟩) :
    ACalls E f args H fun r H' => hb 0 r = true ∧ ∃ ks', ks'.length = ks.length ∧ Q r ks' ∧ H' = putB H sel ks' := by
  unfold BCalls at h
  unfold ACalls at *
  intro c vs hcH hr hg hl
  have hsel : ∀ (j i v : Nat), sel[j]? = some (i, v) → ∃ k, ks[j]? = some k ∧ c.H[i]? = some ⟨v, true, k⟩ := fun j i v hj => by
    have h1 := getElem?_lt hj
    have h2 := List.getElem?_eq_getElem (l := ks) (i := j) (by omega)
    exact ⟨_, h2, by rw [hcH]; exact hH j i v _ hj h2⟩
  have hseli : ∀ (i : Nat), i ∈ sel.map (·.1) ↔ ∃ j v, sel[j]? = some (i, v) := fun i => by
    constructor
    · intro h
      obtain ⟨⟨a, b⟩, hm, rfl⟩ := List.mem_map.mp h
      obtain ⟨j, hj⟩ := List.mem_iff_getElem?.mp hm
      exact ⟨j, b, hj⟩
    · rintro ⟨j, v, hj⟩
      exact List.mem_map.mpr ⟨(i, v), List.mem_of_getElem? hj, rfl⟩
  have hselu : ∀ (j j' i v v' : Nat), sel[j]? = some (i, v) → sel[j']? = some (i, v') → j = j' := fun j j' i v v' h1 h2 => by
    have e1 : (sel.map (·.1))[j]? = some i := by simp [h1]
    have e2 : (sel.map (·.1))[j']? = some i := by simp [h2]
    have l1 := getElem?_lt e1
    exact (List.getElem?_inj l1 hnd).mp (e1.trans e2.symm)
  let xs := (List.range c.w.heap.size).filter fun x => decide (∃ i, i ∉ sel.map (·.1) ∧ c.live i ∧ c.at_ i x)
  have hxs : ∀ x, x ∈ xs ↔ ∃ i, i ∉ sel.map (·.1) ∧ c.live i ∧ c.at_ i x := fun x => by
    simp only [xs, List.mem_filter, List.mem_range, decide_eq_true_eq]
    exact ⟨fun h => h.2, fun h => ⟨by obtain ⟨i, _, h1, h2⟩ := h; exact hr.lt i x h1 h2, h⟩⟩
  let l := xs.map fun x => (x, c.w.heap.getD x default)
  have hl1 : l.map (·.1) = xs := by simp [l, Function.comp_def]
  let c' : Cx := { H := ⟨0, true, .frame l⟩ :: ks.map blkOf, μ := fun j => match j with
    | 0 => none
    | j + 1 => match sel[j]? with
      | some (i, _) => c.μ i
      | none => none, hid := fun j => match j with
    | 0 => xs
    | j + 1 => match sel[j]? with
      | some (i, _) => c.hid i
      | none => [], w := c.w }
  have live' : ∀ j, c'.live (j + 1) ↔ ∃ i v, sel[j]? = some (i, v) := fun j => by
    have : c'.live (j + 1) ↔ j < ks.length := by
      simp only [Cx.live, Cx.θ, c', List.getElem?_cons_succ, List.getElem?_map]
      rcases Nat.lt_or_ge j ks.length with h' | h'
      · simp [h', blkOf]
      · simp [h', List.getElem?_eq_none h']
    rw [this, ← hlen]
    constructor
    · intro h'; exact ⟨_, _, List.getElem?_eq_getElem h'⟩
    · rintro ⟨i, v, h'⟩; exact getElem?_lt h'
  have live0 : c'.live 0 := by simp [Cx.live, Cx.θ, c']
  have at0 : ∀ x, c'.at_ 0 x ↔ x ∈ xs := fun x => by simp [Cx.at_, c']
  have at' : ∀ (j i v x : Nat), sel[j]? = some (i, v) → (c'.at_ (j + 1) x ↔ c.at_ i x) := fun j i v x hj => by simp [Cx.at_, c', hj]
  have sellive : ∀ (j i v : Nat), sel[j]? = some (i, v) → c.live i := fun j i v hj => by
    obtain ⟨k, _, h2⟩ := hsel j i v hj
    exact live_of h2 rfl
  have hO : ∀ x, c'.O x ↔ c.O x := fun x => by
    constructor
    · rintro ⟨j, h1, h2⟩
      cases j with
      | zero =>
        obtain ⟨i, _, h3, h4⟩ := (hxs x).mp ((at0 x).mp h2)
        exact ⟨i, h3, h4⟩
      | succ j =>
        obtain ⟨i, v, hj⟩ := (live' j).mp h1
        exact ⟨i, sellive j i v hj, (at' j i v x hj).mp h2⟩
    · rintro ⟨i, h1, h2⟩
      by_cases hi : i ∈ sel.map (·.1)
      · obtain ⟨j, v, hj⟩ := (hseli i).mp hi
        exact ⟨j + 1, (live' j).mpr ⟨i, v, hj⟩, (at' j i v x hj).mpr h2⟩
      · exact ⟨0, live0, (at0 x).mpr ((hxs x).mpr ⟨i, hi, h1, h2⟩)⟩
  have mv : ∀ (a : AV) (v : Value), hb 0 a = true → VR c a v → VR c' a v := fun a v ha hv =>
    VR.move (c := c) (d := c') (n := 0) (Nat.le_refl _) (fun _ _ _ => rfl) (fun x ho => .inl ((hO x).mp ho)) (Nat.zero_le _) (fun i hi => by omega) hv ha
  have hr' : HR c' := by
    constructor
    · intro j b hb hbl
      cases j with
      | zero =>
        simp [c'] at hb
        subst hb
        refine ⟨rfl, hl1.symm, fun p hp => ?_⟩
        obtain ⟨x, hx, rfl⟩ := List.mem_map.mp hp
        obtain ⟨i, _, h3, h4⟩ := (hxs x).mp hx
        have := hr.lt i x h3 h4
        simp [c', Array.getD, this]
      | succ j =>
        have hlv : c'.live (j + 1) := live_of hb hbl
        obtain ⟨i, v, hj⟩ := (live' j).mp hlv
        obtain ⟨k, hk, hci⟩ := hsel j i v hj
        have hbk : b = blkOf k := by
          have : c'.H[j + 1]? = some (blkOf k) := by simp [c', hk]
          rw [this] at hb; exact (Option.some.inj hb).symm
        subst hbk
        have B := hr.blk i _ hci rfl
        have e1 : c'.μ (j + 1) = c.μ i := by simp [c', hj]
        have e2 : c'.hid (j + 1) = c.hid i := by simp [c', hj]
        rw [e1, e2]
        exact BR.free (List.all_eq_true.mp hks k (List.mem_of_getElem? hk)) mv B (fun _ _ => rfl) (fun _ _ => rfl)
    · intro j j' x h1 h2 h3 h4
      cases j with
      | zero =>
        cases j' with
        | zero => rfl
        | succ j' =>
          obtain ⟨i', v', hj'⟩ := (live' j').mp h2
          obtain ⟨i, hi, hli, hai⟩ := (hxs x).mp ((at0 x).mp h3)
          have := hr.inj i i' x hli (sellive j' i' v' hj') hai ((at' j' i' v' x hj').mp h4)
          subst this
          exact (hi ((hseli i).mpr ⟨j', v', hj'⟩)).elim
      | succ j =>
        obtain ⟨i, v, hj⟩ := (live' j).mp h1
        cases j' with
        | zero =>
          obtain ⟨i', hi, hli, hai⟩ := (hxs x).mp ((at0 x).mp h4)
          have := hr.inj i' i x hli (sellive j i v hj) hai ((at' j i v x hj).mp h3)
          subst this
          exact (hi ((hseli i').mpr ⟨j, v, hj⟩)).elim
        | succ j' =>
          obtain ⟨i', v', hj'⟩ := (live' j').mp h2
          have := hr.inj i i' x (sellive j i v hj) (sellive j' i' v' hj') ((at' j i v x hj).mp h3) ((at' j' i' v' x hj').mp h4)
          subst this
          rw [hselu j j' i v v' hj hj']
    · intro j l' h1 h2
      cases j with
      | zero => cases h2
      | succ j =>
        obtain ⟨i, v, hj⟩ := (live' j).mp h1
        have e1 : c'.μ (j + 1) = c.μ i := by simp [c', hj]
        have e2 : c'.hid (j + 1) = c.hid i := by simp [c', hj]
        rw [e2]
        exact hr.hid i l' (sellive j i v hj) (e1 ▸ h2)
    · intro j x h1 h2
      obtain ⟨i, h3, h4⟩ := (hO x).mp ⟨j, h1, h2⟩
      exact hr.lt i x h3 h4
  have hg' : GOk E c' := ⟨hg.le, fun x hx => ⟨(hg.at_ x hx).1, fun ho => (hg.at_ x hx).2 ((hO x).mp ho)⟩⟩
  have hθ' : ∀ (j i v : Nat), sel[j]? = some (i, v) → c.θ i = some (v, c.μ i) ∧ c'.θ (j + 1) = some (0, c.μ i) := fun j i v hj => by
    obtain ⟨k, hk, hci⟩ := hsel j i v hj
    refine ⟨θ_of hci, ?_⟩
    have : c'.H[j + 1]? = some ⟨0, true, k⟩ := by simp [c', hk, blkOf]
    rw [θ_of this]
    simp [c', hj]
  have hl' : LR c' args0 vs := ⟨hal.trans hl.len, fun j x v hx hv => by
    have hj := getElem?_lt hx
    have hy := List.getElem?_eq_getElem (l := args) (i := j) (by omega)
    exact (hren j x _ hx hy).vr (c := c) (d := c') (Nat.le_refl _) (fun _ _ _ => rfl) (fun x ho => .inl ((hO x).mp ho)) hθ' (hl.at_ j _ v hy hv)⟩
  refine (h l c' vs rfl hr' hg' hl').mono fun v w' ⟨d', r, e1, e2, e3, e4, e5, ks', e6, e7, e8, e9⟩ => ?_
  -- the caller's view, behind it
  let d : Cx := { H := putB H sel ks', μ := c.μ, hid := fun i => if hi : ∃ j v, sel[j]? = some (i, v) then d'.hid (hi.choose + 1) else c.hid i, w := d'.w }
  have hidsel : ∀ (j i v : Nat), sel[j]? = some (i, v) → d.hid i = d'.hid (j + 1) := fun j i v hj => by
    have hex : ∃ j v, sel[j]? = some (i, v) := ⟨j, v, hj⟩
    show (if hi : ∃ j v, sel[j]? = some (i, v) then d'.hid (hi.choose + 1) else c.hid i) = _
    rw [dif_pos hex]
    obtain ⟨v', hv'⟩ := hex.choose_spec
    rw [hselu _ j i v' v hv' hj]
  have hidoth : ∀ i, i ∉ sel.map (·.1) → d.hid i = c.hid i := fun i hi => by
    show (if hi : ∃ j v, sel[j]? = some (i, v) then d'.hid (hi.choose + 1) else c.hid i) = _
    rw [dif_neg (fun hex => hi ((hseli i).mpr hex))]
  have hlenH : ∀ (j i v : Nat), sel[j]? = some (i, v) → i < H.length := fun j i v hj => by
    obtain ⟨k, _, h2⟩ := hsel j i v hj
    rw [hcH] at h2; exact getElem?_lt h2
  have dHoth : ∀ i, i ∉ sel.map (·.1) → d.H[i]? = c.H[i]? := fun i hi => by rw [hcH]; exact putB_ne sel ks' H i hi
  have dHsel : ∀ (j i v : Nat), sel[j]? = some (i, v) → ∃ k, ks'[j]? = some k ∧ d.H[i]? = some ⟨v, true, k⟩ ∧ d'.H[j + 1]? = some ⟨0, true, k⟩ := fun j i v hj => by
    have h1 := getElem?_lt hj
    have h2 := List.getElem?_eq_getElem (l := ks') (i := j) (by omega)
    exact ⟨_, h2, putB_at sel ks' H hnd (by omega) hlenH j i v _ hj h2, by rw [e6]; simp [blkOf, h2]⟩
  have dθ : ∀ i, d.θ i = c.θ i := fun i => by
    by_cases hi : i ∈ sel.map (·.1)
    · obtain ⟨j, v, hj⟩ := (hseli i).mp hi
      obtain ⟨k, _, h2⟩ := hsel j i v hj
      obtain ⟨k', _, h3, _⟩ := dHsel j i v hj
      rw [θ_of h2, θ_of h3]
    · simp only [Cx.θ, dHoth i hi]
      rfl
  have dlive : ∀ i, d.live i ↔ c.live i := fun i => by simp only [Cx.live, dθ]
  have μsel : ∀ (j i v : Nat), sel[j]? = some (i, v) → d'.μ (j + 1) = c.μ i := fun j i v hj => by
    obtain ⟨k, _, _, h4⟩ := dHsel j i v hj
    exact ((e3.old (j + 1) 0 (c.μ i) 0 (d'.μ (j + 1)) (hθ' j i v hj).2 (θ_of h4)).2 rfl).symm
  have live'd : ∀ (j i v : Nat), sel[j]? = some (i, v) → d'.live (j + 1) := fun j i v hj => by
    obtain ⟨k, _, _, h4⟩ := dHsel j i v hj
    exact live_of h4 rfl
  have hblk0 : d'.H[0]? = some ⟨0, true, .frame l⟩ := by rw [e6]; rfl
  have hblk := e2.blk 0 _ hblk0 rfl
  have live0d : d'.live 0 := live_of hblk0 rfl
  have atsel : ∀ (j i v x : Nat), sel[j]? = some (i, v) → (d.at_ i x ↔ d'.at_ (j + 1) x) := fun j i v x hj => by
    simp only [Cx.at_, hidsel j i v hj, μsel j i v hj]
    rfl
  have atoth : ∀ i x, i ∉ sel.map (·.1) → (d.at_ i x ↔ c.at_ i x) := fun i x hi => by
    simp only [Cx.at_, hidoth i hi]
    rfl
  have at0d : ∀ i x, i ∉ sel.map (·.1) → c.live i → c.at_ i x → d'.at_ 0 x := fun i x hi h1 h2 => .inr (by rw [hblk.2.1, hl1]; exact (hxs x).mpr ⟨i, hi, h1, h2⟩)
  have hsame : ∀ x, x ∈ xs → d.w.heap[x]? = c.w.heap[x]? := fun x hx => by
    have := hblk.2.2 (x, c.w.heap.getD x default) (List.mem_map.mpr ⟨x, hx, rfl⟩)
    rw [show d.w = d'.w from rfl, this]
    obtain ⟨i, _, h3, h4⟩ := (hxs x).mp hx
    have h2 := hr.lt i x h3 h4
    simp [Array.getD, h2]
  have dO : ∀ x, d.O x → d'.O x := fun x ⟨i, h1, h2⟩ => by
    by_cases hi : i ∈ sel.map (·.1)
    · obtain ⟨j, v, hj⟩ := (hseli i).mp hi
      exact ⟨j + 1, live'd j i v hj, (atsel j i v x hj).mp h2⟩
    · exact ⟨0, live0d, at0d i x hi ((dlive i).mp h1) ((atoth i x hi).mp h2)⟩
  have e : Ext c d := {
    n := by rw [hcH]; exact Nat.le_of_eq (putB_length sel ks' H).symm
    old := fun i v m v' m' h h' => by
      rw [dθ i, h] at h'; cases h'; exact ⟨Nat.le_refl _, fun _ => rfl⟩
    dead := fun i _ h => by rw [dθ i]; exact h
    os := e3.os
    tape := e3.tape
    output := e3.output
    size := e3.size
    same := fun x hx ho => e3.same x hx (fun h => ho ((hO x).mp h))
    own := fun x h => (e3.own x (dO x h)).imp (hO x).mp id }
  have mv' : ∀ (a : AV) (v : Value), hb 0 a = true → VR d' a v → VR d a v := fun a v ha hv =>
    VR.move (c := d') (d := d) (n := 0) (Nat.le_refl _) (fun _ _ _ => rfl) (fun x ho => .inl (dO x ho)) (Nat.zero_le _) (fun i hi => by omega) hv ha
  refine ⟨d, r, e1, ?_, e, mv' r v e5 e4, e5, ks', e7, e9, rfl⟩
  constructor
  · intro i b hb hbl
    by_cases hi : i ∈ sel.map (·.1)
    · obtain ⟨j, v, hj⟩ := (hseli i).mp hi
      obtain ⟨k, hk, h2, h3⟩ := dHsel j i v hj
      rw [hb] at h2; cases h2
      have B := e2.blk (j + 1) _ h3 rfl
      rw [hidsel j i v hj]
      show BR d (c.μ i) _ k
      rw [← μsel j i v hj]
      exact BR.free (List.all_eq_true.mp e8 k (List.mem_of_getElem? hk)) mv' B (fun _ _ => rfl) (fun _ _ => rfl)
    · have hb' : c.H[i]? = some b := (dHoth i hi) ▸ hb
      have hli : c.live i := live_of hb' hbl
      rw [hidoth i hi]
      exact BR_frame e (hr.blk i b hb' hbl) (fun l' hl' => hsame _ ((hxs _).mpr ⟨i, hi, hli, .inl ⟨l', hl', rfl⟩⟩)) (fun x hx => hsame x ((hxs x).mpr ⟨i, hi, hli, .inr hx⟩))
  · intro i i' x h1 h2 h3 h4
    by_cases hi : i ∈ sel.map (·.1) <;> by_cases hi' : i' ∈ sel.map (·.1)
    · obtain ⟨j, v, hj⟩ := (hseli i).mp hi
      obtain ⟨j', v', hj'⟩ := (hseli i').mp hi'
      have := e2.inj (j + 1) (j' + 1) x (live'd j i v hj) (live'd j' i' v' hj') ((atsel j i v x hj).mp h3) ((atsel j' i' v' x hj').mp h4)
      obtain rfl : j = j' := by omega
      rw [hj] at hj'; cases hj'; rfl
    · obtain ⟨j, v, hj⟩ := (hseli i).mp hi
      have := e2.inj (j + 1) 0 x (live'd j i v hj) live0d ((atsel j i v x hj).mp h3) (at0d i' x hi' ((dlive i').mp h2) ((atoth i' x hi').mp h4))
      omega
    · obtain ⟨j', v', hj'⟩ := (hseli i').mp hi'
      have := e2.inj 0 (j' + 1) x live0d (live'd j' i' v' hj') (at0d i x hi ((dlive i).mp h1) ((atoth i x hi).mp h3)) ((atsel j' i' v' x hj').mp h4)
      omega
    · exact hr.inj i i' x ((dlive i).mp h1) ((dlive i').mp h2) ((atoth i x hi).mp h3) ((atoth i' x hi').mp h4)
  · intro i l' h1 h2
    by_cases hi : i ∈ sel.map (·.1)
    · obtain ⟨j, v, hj⟩ := (hseli i).mp hi
      rw [hidsel j i v hj]
      exact e2.hid (j + 1) l' (live'd j i v hj) ((μsel j i v hj).trans h2)
    · rw [hidoth i hi]
      exact hr.hid i l' ((dlive i).mp h1) h2
  · intro i x h1 h2
    obtain ⟨j, h3, h4⟩ := dO x ⟨i, h1, h2⟩
    exact e2.lt j x h3 h4

def frmB (l : List (Nat × Obj)) (ks : List BK) : List Blk := ⟨0, true, .frame l⟩ :: ks.map blkOf

def RB (l : List (Nat × Obj)) (ks : List BK) (Q : AV → List BK → Prop) (r : AV) (H' : List Blk) : Prop :=
  hb 0 r = true ∧ ∃ ks', H' = frmB l ks' ∧ ks'.length = ks.length ∧ (ks'.all bkFree) = true ∧ Q r ks'

theorem BCalls.mk {E : Env} {f : FuncId} {args : List AV} {ks : List BK} {Q : AV → List BK → Prop} (h : ∀ l, ACalls E f args (frmB l ks) (RB l ks Q)) : BCalls E f args ks Q := by
  unfold BCalls
  exact h

theorem BCalls.mono {E : Env} {f : FuncId} {args : List AV} {ks : List BK} {Q Q' : AV → List BK → Prop} (h : BCalls E f args ks Q) (hq : ∀ r ks', Q r ks' → Q' r ks') : BCalls E f args ks Q' := by
  unfold BCalls at *
  exact fun l => (h l).mono fun r H' ⟨h1, ks', h2, h3, h4, h5⟩ => ⟨h1, ks', h2, h3, h4, hq _ _ h5⟩

/-- elementwise -/
def RenL (sel : List (Nat × Nat)) : List AV → List AV → Prop
  | [], [] => True
  | x :: xs, y :: ys => Ren sel x y ∧ RenL sel xs ys
  | _, _ => False

theorem RenL.spec {sel : List (Nat × Nat)} : ∀ {l m : List AV}, RenL sel l m → l.length = m.length ∧ ∀ (j : Nat) (x y : AV), l[j]? = some x → m[j]? = some y → Ren sel x y
  | [], [], _ => ⟨rfl, fun j x y h => by simp at h⟩
  | x :: xs, y :: ys, h => by
    obtain ⟨h1, h2⟩ := h
    obtain ⟨i1, i2⟩ := RenL.spec h2
    refine ⟨by simp [i1], fun j u v hu hv => ?_⟩
    cases j with
    | zero => simp at hu hv; subst hu hv; exact h1
    | succ j => simp at hu hv; exact i2 j u v hu hv
  | [], _ :: _, h => h.elim
  | _ :: _, [], h => h.elim

/-- the caller's blocks -/
def Sel (H : List Blk) : List (Nat × Nat) → List BK → Prop
  | [], [] => True
  | (i, v) :: sel, k :: ks => getK H i = some ⟨v, true, k⟩ ∧ Sel H sel ks
  | _, _ => False

theorem Sel.spec {H : List Blk} : ∀ {sel : List (Nat × Nat)} {ks : List BK}, Sel H sel ks → sel.length = ks.length ∧ ∀ (j i v : Nat) (k : BK), sel[j]? = some (i, v) → ks[j]? = some k → H[i]? = some ⟨v, true, k⟩
  | [], [], _ => ⟨rfl, fun j i v k h => by simp at h⟩
  | (i', v') :: sel, k' :: ks, h => by
    obtain ⟨h1, h2⟩ := h
    obtain ⟨i1, i2⟩ := Sel.spec h2
    refine ⟨by simp [i1], fun j i v k hj hk => ?_⟩
    cases j with
    | zero => simp at hj hk; obtain ⟨rfl, rfl⟩ := hj; subst hk; rwa [getK_eq] at h1
    | succ j => simp at hj hk; exact i2 j i v k hj hk
  | [], _ :: _, h => h.elim
  | _ :: _, [], h => h.elim

/-- a call that is handed some of the caller's blocks -/
theorem CallG.b {E : Env} {n0 : List Blk} {f : FuncId} {first args cap : List AV} {s : St} {K : AV → St → Prop} {args0 : List AV} {ks : List BK} {Q : AV → List BK → Prop} (sel : List (Nat × Nat)) (h : BCalls E f args0 ks Q)
    (hsel : Sel s.H sel ks) (hren : RenL sel args0 (first ++ args ++ cap)) (k : ∀ r ks', Q r ks' → hb 0 r = true → ks'.length = ks.length → K r ⟨s.tm, putB s.H sel ks'⟩)
    (hks : (ks.all bkFree) = true := by rfl) (hnd : (sel.map (·.1)).Nodup := by decide) : CallG E n0 (.fn (.func f) first cap) args s K := by
  obtain ⟨h1, h2⟩ := hsel.spec
  obtain ⟨h3, h4⟩ := hren.spec
  exact CallG.a ((h.lift sel hnd h1 hks h3 h4 h2).mono fun r H' ⟨g1, ks', g2, g3, g4⟩ => g4 ▸ k r ks' g3 g1 g2)

theorem RetG.b {E : Env} {n0 : List Blk} {l : List (Nat × Obj)} {ks ks' : List BK} {Q : AV → List BK → Prop} {r : AV} {H : List Blk} (hr : hb 0 r = true) (hr' : hb (lenK n0) r = true) (hH : takeK (lenK n0) H id = frmB l ks') (hh : hbH (lenK n0) (frmB l ks') = true) (hl : ks'.length = ks.length)
    (hk : (ks'.all bkFree) = true) (h : Q r ks') : RetG E n0 r H (RB l ks Q) :=
  RetG.drop hr' hH hh ⟨hr, ks', rfl, hl, hk, h⟩
end Ink

namespace Ink
open Go

/-- what is known of strings.Builder in a program -/
structure BldP (P : Program) (T e fcc fstr : Nat) : Prop where
  ecc : ∀ vs w, (callFunc fcc vs).run P w = .ok (.enter fcc vs) w
  estr : ∀ vs w, (callFunc fstr vs).run P w = .ok (.enter fstr vs) w
  used : ∀ (b : Nat) (w : World), w.cell? ⟨b, 0, none⟩ = some (.pointer (some ⟨b, 0, none⟩)) → Calls P fcc #[.pointer (some ⟨b, 0, none⟩)] w fun e w' => e = .returned (.tuple #[]) ∧ w' = w
  fresh : ∀ (b : Nat) (w : World), w.cell? ⟨b, 0, none⟩ = some (.pointer none) → w.shape? b = some (T, 2) → w.frozen? ⟨b, 0, none⟩ = false →
    Calls P fcc #[.pointer (some ⟨b, 0, none⟩)] w fun e w' => e = .returned (.tuple #[]) ∧ w' = w.setCell ⟨b, 0, none⟩ (.pointer (some ⟨b, 0, none⟩))
  nil : ∀ (b : Nat) (w : World), w.cell? ⟨b, 1, none⟩ = some (.slice none 0 0) → Calls P fstr #[.pointer (some ⟨b, 0, none⟩)] w fun e w' => e = .returned (.string ⟨#[]⟩) ∧ w' = w.drew
  room : ∀ (b : Nat) (w : World) (g base cap : Nat), cap ≠ 0 → w.cell? ⟨b, 1, none⟩ = some (.slice (some ⟨g, base, none⟩) 0 cap) → Calls P fstr #[.pointer (some ⟨b, 0, none⟩)] w fun e w' => e = .returned (.string ⟨#[]⟩) ∧ w' = w.drew
  full : ∀ (b : Nat) (w : World) (g base cap : Nat) (l : List UInt8), l ≠ [] → l.length ≤ cap → ∀ (n : Nat), w.shape? g = some (e, n) → base + l.length ≤ n → l.length ≤ 9223372036854775807 →
    (∀ (j : Nat) (x : UInt8), l[j]? = some x → w.cell? ((⟨g, base, none⟩ : Addr).add j) = some (.int .u8 x.toNat)) → w.cell? ⟨b, 1, none⟩ = some (.slice (some ⟨g, base, none⟩) l.length cap) →
    Calls P fstr #[.pointer (some ⟨b, 0, none⟩)] w fun e w' => e = .returned (.string ⟨l.toArray⟩) ∧ w' = w.drew.freeze ⟨g, base, none⟩ l.length

section
variable {E : Env} {T e fcc fstr : Nat}

theorem bytesAV_at {bs : List UInt8} {j : Nat} {x : AV} (h : (bytesAV bs)[j]? = some x) : ∃ u, bs[j]? = some u ∧ x = .int .u8 (u.toNat : Int) := by
  simp only [bytesAV, List.getElem?_map, Option.map_eq_some_iff] at h
  obtain ⟨u, h1, rfl⟩ := h
  exact ⟨u, h1, rfl⟩

/-- the copy check: behind it the builder is seen as it is -/
theorem BldP.check (B : BldP E.P T e fcc fstr) (l : List (Nat × Obj)) (bs : List UInt8) :
    ACalls E fcc [.ptr 1 0 0] [⟨0, true, .frame l⟩, ⟨0, true, .bld T e bs⟩] fun r H' => r = .tup [] ∧ H' = [⟨0, true, .frame l⟩, ⟨0, true, .cells T [.ptr 1 0 0, .own 2 0 0 bs.length 1]⟩, ⟨0, true, .cells e (bytesAV bs)⟩] := by
  unfold ACalls
  intro c vs hH hr hg hl
  have hb0 : c.H[0]? = some ⟨0, true, .frame l⟩ := by rw [hH]; rfl
  have hb1 : c.H[1]? = some ⟨0, true, .bld T e bs⟩ := by rw [hH]; rfl
  have F := hr.blk 0 _ hb0 rfl
  have L1 := hr.blk 1 _ hb1 rfl
  have live0 : c.live 0 := live_of hb0 rfl
  have live1 : c.live 1 := live_of hb1 rfl
  obtain ⟨v0, rfl, hv0⟩ : ∃ v, vs = [v] ∧ VR c (.ptr 1 0 0) v := by
    match vs, hl.len with
    | [v], _ => exact ⟨v, rfl, hl.at_ 0 _ v rfl rfl⟩
  obtain ⟨p, hμ, rfl⟩ := ptr_at hv0 hb1
  rw [hμ] at L1
  obtain ⟨hbase, hsize, q, v, fr, hcell, hfr, hq, hbuf⟩ := L1
  rw [hbase]
  simp only [Nat.zero_add]
  have hcell0 : c.w.cell? ⟨p.b, 0, none⟩ = some q := by rw [cell_heap hcell]; rfl
  -- the world behind the check
  obtain ⟨w1, hcalls, hw1, hoth, hsz, hos, htape, hout⟩ : ∃ w1, (Calls E.P fcc #[.pointer (some ⟨p.b, 0, none⟩)] c.w fun e w' => e = .returned (.tuple #[]) ∧ w' = w1) ∧
      w1.heap[p.b]? = some (.cells #[.pointer (some ⟨p.b, 0, none⟩), v] T fr) ∧ (∀ x, x ≠ p.b → w1.heap[x]? = c.w.heap[x]?) ∧ w1.heap.size = c.w.heap.size ∧ w1.os = c.w.os ∧ w1.tape = c.w.tape ∧ w1.output = c.w.output := by
    rcases hq with rfl | rfl
    · refine ⟨_, B.fresh p.b c.w hcell0 (by simp [World.shape?, hcell]) (by have := hfr 0 (by omega); simp [World.frozen?, hcell]; omega), ?_⟩
      have hs := setCell_eq_setRow c.w p.b 0 #[.pointer none, v] T fr (.pointer (some ⟨p.b, 0, none⟩)) hcell
      rw [hs]
      exact ⟨setRow_heap _ _ _ _ _ _ hcell, fun x hx => setRow_heap_ne _ _ _ _ hx, setRow_size _ _ _, rfl, rfl, rfl⟩
    · exact ⟨_, B.used p.b c.w hcell0, hcell, fun _ _ => rfl, rfl, rfl, rfl, rfl⟩
  -- the buffer
  obtain ⟨m2, hm2, hm2b, hvr2, hbr2⟩ : ∃ m2 : Option Loc, (∀ k, m2 = some k → k.b ∈ c.hid 1) ∧ (m2 = none → v = .slice none 0 0 ∧ bs.length = 0) ∧
      (∀ k, m2 = some k → ∃ a cap, v = .slice (some a) bs.length cap ∧ bs.length ≤ cap ∧ (cap ≠ 0 → a = ⟨k.b, k.base + 0, none⟩) ∧ k.base + 0 + cap * 1 ≤ k.size ∧ cap ≤ 9223372036854775807) ∧
      (match m2 with
        | none => bytesAV bs = []
        | some k => ∃ cs fr, c.w.heap[k.b]? = some (.cells cs e fr) ∧ cs.size = k.size ∧ k.base + (bytesAV bs).length ≤ k.size ∧ (∀ (j : Nat) (u : UInt8), bs[j]? = some u → cs[k.base + j]? = some (Value.int .u8 (u.toNat : Int))) ∧ ∀ o, k.base ≤ o → o < k.size + mkB e → ¬ (fr.1 ≤ o ∧ o < fr.2)) := by
    rcases hbuf with ⟨h1, h2, h3⟩ | ⟨h, base, cap, h1, h2, h3, cs, fr, g1, g2, g3, g4, g5⟩
    · refine ⟨none, fun k hk => (by cases hk), fun _ => ⟨h2, by rw [h3]; rfl⟩, fun k hk => by (cases hk), ?_⟩
      rw [h3]; rfl
    · refine ⟨some ⟨h, base, cs.size⟩, fun k hk => (by cases hk; simp [h1]), fun hk => (by cases hk), fun k hk => ?_, cs, fr, g1, rfl, (by simp [bytesAV]; omega), g4, fun o hb ho => g5 o hb ho⟩
      cases hk
      exact ⟨_, cap, h2, g3, fun _ => rfl, by show base + 0 + cap * 1 ≤ cs.size; omega, by omega⟩
  have hne : ∀ k, m2 = some k → k.b ≠ p.b := fun k hk he => hr.hid 1 p live1 hμ (he ▸ hm2 k hk)
  let d : Cx := { H := [⟨0, true, .frame l⟩, ⟨0, true, .cells T [.ptr 1 0 0, .own 2 0 0 bs.length 1]⟩, ⟨0, true, .cells e (bytesAV bs)⟩], μ := fun i => (if i = 2 then m2 else c.μ i), hid := fun i => if i = 0 then c.hid 0 else [], w := w1 }
  have dlive : ∀ i, d.live i → i = 0 ∨ i = 1 ∨ i = 2 := fun i hi => by
    obtain ⟨b, hb, _⟩ := live_blk hi
    have := getElem?_lt hb
    simp [d] at this
    omega
  have at0 : ∀ x, d.at_ 0 x → c.at_ 0 x := fun x hx => hx
  have at1 : ∀ x, d.at_ 1 x → x = p.b := fun x hx => by
    rcases hx with ⟨k, hk, rfl⟩ | hx
    · have : c.μ 1 = some k := hk
      rw [hμ] at this; cases this; rfl
    · simp [d] at hx
  have at2 : ∀ x, d.at_ 2 x → ∃ k, m2 = some k ∧ x = k.b := fun x hx => by
    rcases hx with ⟨k, hk, rfl⟩ | hx
    · exact ⟨k, hk, rfl⟩
    · simp [d] at hx
  have c1 : c.at_ 1 p.b := .inl ⟨p, hμ, rfl⟩
  have c2 : ∀ k, m2 = some k → c.at_ 1 k.b := fun k hk => .inr (hm2 k hk)
  have dO : ∀ x, d.O x → c.O x := fun x ⟨i, h1, h2⟩ => by
    rcases dlive i h1 with rfl | rfl | rfl
    · exact ⟨0, live0, at0 x h2⟩
    · rw [at1 x h2]; exact ⟨1, live1, c1⟩
    · obtain ⟨k, hk, rfl⟩ := at2 x h2; exact ⟨1, live1, c2 k hk⟩
  have hdH2 : d.H[2]? = some ⟨0, true, .cells e (bytesAV bs)⟩ := rfl
  have hdH1 : d.H[1]? = some ⟨0, true, .cells T [.ptr 1 0 0, .own 2 0 0 bs.length 1]⟩ := rfl
  have θ1 : d.θ 1 = some (0, some p) := by rw [θ_of hdH1]; show some (0, c.μ 1) = _; rw [hμ]
  have θ2 : d.θ 2 = some (0, m2) := by rw [θ_of hdH2]; rfl
  have E1 : Ext c d := {
    n := by rw [hH]; simp [d]
    old := fun i v m v' m' h h' => by
      have hi : i < 2 := by have := θ_lt h; rw [hH] at this; simpa using this
      have : i = 0 ∨ i = 1 := by omega
      rcases this with rfl | rfl
      · have : d.θ 0 = c.θ 0 := by rw [θ_of hb0, θ_of (c := d) (show d.H[0]? = some ⟨0, true, .frame l⟩ from rfl)]; rfl
        rw [this, h] at h'; cases h'; exact ⟨Nat.le_refl _, fun _ => rfl⟩
      · rw [θ1] at h'; rw [θ_of hb1, hμ] at h; cases h; cases h'; exact ⟨Nat.le_refl _, fun _ => rfl⟩
    dead := fun i hi h => by
      rw [hH] at hi
      simp at hi
      have : i = 0 ∨ i = 1 := by omega
      rcases this with rfl | rfl
      · rw [θ_of hb0] at h; cases h
      · rw [θ_of hb1] at h; cases h
    os := hos
    tape := htape
    output := hout
    size := Nat.le_of_eq hsz.symm
    same := fun x hx ho => hoth x (fun hxp => ho (hxp ▸ ⟨1, live1, c1⟩))
    own := fun x h => .inl (dO x h) }
  refine .inl ⟨fun w => B.ecc _ w, hcalls.mono fun en w' ⟨h1, h2⟩ => ⟨_, h1, d, .tup [], h2.symm, ?_, E1, .tup [] #[] rfl (fun j x v hx => by simp at hx), rfl, rfl⟩⟩
  constructor
  · intro i b hb hbl
    rcases dlive i (live_of hb hbl) with rfl | rfl | rfl
    · cases hb
      refine ⟨F.1, F.2.1, fun pr hp => ?_⟩
      have hne : pr.1 ≠ p.b := fun he => by
        have := hr.inj 0 1 p.b live0 live1 (.inr (by rw [F.2.1]; exact List.mem_map.mpr ⟨pr, hp, he⟩)) c1
        cases this
      show w1.heap[pr.1]? = _
      rw [hoth _ hne]; exact F.2.2 pr hp
    · cases hb
      have : d.μ 1 = some p := hμ
      rw [this]
      refine ⟨rfl, by simp [sc], #[.pointer (some ⟨p.b, 0, none⟩), v], fr, hw1, by rw [hsize]; rfl, by rw [hbase, hsize]; simp, fun j x hx => ?_, fun o _ ho h => hfr o (by omega) h⟩
      rw [hbase, Nat.zero_add]
      match j, hx with
      | 0, hx =>
        cases hx
        refine ⟨_, rfl, .ptr 1 0 0 _ ⟨_, rfl⟩ (by simp [d]) (fun v0 m hm => Nat.zero_le _) (fun m hm => ?_)⟩
        rw [θ1] at hm; cases hm
        exact ⟨p, rfl, by simp [hbase]⟩
      | 1, hx =>
        cases hx
        refine ⟨_, rfl, ?_⟩
        cases hm2' : m2 with
        | none =>
          obtain ⟨rfl, h0⟩ := hm2b hm2'
          refine .own 2 0 0 _ 1 _ ⟨_, _, _, rfl, by omega⟩ (by simp [d]) (fun v0 m hm => Nat.zero_le _) (fun _ => ⟨rfl, h0, rfl⟩) (fun k hk => ?_)
          rw [θ2, hm2'] at hk; cases hk
        | some k =>
          obtain ⟨a, cap, hv, r1, r2, r3, r4⟩ := hvr2 k hm2'
          refine .own 2 0 0 _ 1 _ ⟨_, _, _, hv, r4⟩ (by simp [d]) (fun v0 m hm => Nat.zero_le _) (fun hk => ?_) (fun k' hk => ?_)
          · rw [θ2, hm2'] at hk; cases hk
          · rw [θ2, hm2'] at hk; cases hk
            exact ⟨a, cap, hv, r1, r2, r3⟩
    · cases hb
      have : d.μ 2 = m2 := rfl
      rw [this]
      refine ⟨rfl, fun x hx => ?_, ?_⟩
      · obtain ⟨j, hj⟩ := List.mem_iff_getElem?.mp hx
        obtain ⟨u, _, rfl⟩ := bytesAV_at hj
        rfl
      · cases hm2' : m2 with
        | none => rw [hm2'] at hbr2; exact hbr2
        | some k =>
          rw [hm2'] at hbr2
          obtain ⟨cs, fr, g1, g2, g3, g4, g5⟩ := hbr2
          refine ⟨cs, fr, ?_, g2, g3, fun j x hx => ?_, g5⟩
          · show w1.heap[k.b]? = _
            rw [hoth _ (hne k hm2')]; exact g1
          · obtain ⟨u, hu, rfl⟩ := bytesAV_at hx
            exact ⟨_, g4 j u hu, .int _ _ (IK_u8)⟩
  · intro i j x hi hj hix hjx
    have n01 : ∀ y, c.at_ 0 y → c.at_ 1 y → False := fun y h1 h2 => by cases hr.inj 0 1 y live0 live1 h1 h2
    rcases dlive i hi with rfl | rfl | rfl <;> rcases dlive j hj with rfl | rfl | rfl
    · rfl
    · exact (n01 x (at0 x hix) (at1 x hjx ▸ c1)).elim
    · obtain ⟨k, hk, rfl⟩ := at2 x hjx; exact (n01 _ (at0 _ hix) (c2 k hk)).elim
    · exact (n01 x (at0 x hjx) (at1 x hix ▸ c1)).elim
    · rfl
    · obtain ⟨k, hk, rfl⟩ := at2 x hjx; exact (hne k hk (at1 _ hix)).elim
    · obtain ⟨k, hk, rfl⟩ := at2 x hix; exact (n01 _ (at0 _ hjx) (c2 k hk)).elim
    · obtain ⟨k, hk, rfl⟩ := at2 x hix; exact (hne k hk (at1 _ hjx)).elim
    · rfl
  · intro i k hi hk
    rcases dlive i hi with rfl | rfl | rfl
    · have : c.μ 0 = some k := hk
      rw [F.1] at this; cases this
    · simp [d]
    · simp [d]
  · intro i x hi hx
    obtain ⟨j, h1, h2⟩ := dO x ⟨i, hi, hx⟩
    show x < w1.heap.size
    rw [hsz]
    exact hr.lt j x h1 h2

/-- seen as a builder again -/
theorem WkV.fold {l : List (Nat × Obj)} {bs0 bs : List UInt8} {r : AV} {v2 : Nat} (hbs : bs ≠ []) (hr0 : hb 0 r = true) :
    WkV E [⟨0, true, .frame l⟩, ⟨0, true, .bld T e bs0⟩] r [⟨0, true, .frame l⟩, ⟨0, true, .cells T [.ptr 1 0 0, .own 2 v2 0 bs.length 1]⟩, ⟨v2, true, .cells e (bytesAV bs)⟩] r [⟨0, true, .frame l⟩, ⟨0, true, .bld T e bs⟩] := by
  unfold WkV
  intro c0 c v hn he hg hH hr hv
  obtain ⟨hn, hr0'⟩ := hn
  have hc0 : c0.H[1]? = some ⟨0, true, .bld T e bs0⟩ := by rw [hn]; rfl
  have L0 := hr0'.blk 1 _ hc0 rfl
  have hb0 : c.H[0]? = some ⟨0, true, .frame l⟩ := by rw [hH]; rfl
  have hb1 : c.H[1]? = some ⟨0, true, .cells T [.ptr 1 0 0, .own 2 v2 0 bs.length 1]⟩ := by rw [hH]; rfl
  have hb2 : c.H[2]? = some ⟨v2, true, .cells e (bytesAV bs)⟩ := by rw [hH]; rfl
  have live0 : c.live 0 := live_of hb0 rfl
  have live1 : c.live 1 := live_of hb1 rfl
  have live2 : c.live 2 := live_of hb2 rfl
  have F := hr.blk 0 _ hb0 rfl
  have L1 := hr.blk 1 _ hb1 rfl
  have hμeq : c0.μ 1 = c.μ 1 := (he.old 1 0 _ 0 _ (θ_of hc0) (θ_of hb1)).2 rfl
  obtain ⟨p, hμ⟩ : ∃ p, c.μ 1 = some p := by
    cases h : c.μ 1 with
    | none => rw [hμeq, h] at L0; exact L0.elim
    | some p => exact ⟨p, rfl⟩
  rw [hμeq, hμ] at L0
  obtain ⟨hbase, hsize, _⟩ := L0
  obtain ⟨cs, fr, g1, g2, g3, g4, g5, g6⟩ := blk_cells hr hb1 hμ
  obtain ⟨q, hq, hqv⟩ := g5 0 _ rfl
  obtain ⟨u, hu, huv⟩ := g5 1 _ rfl
  rw [hbase] at hq hu
  have hq2 : q = .pointer (some ⟨p.b, 0, none⟩) := by
    obtain ⟨p', h1, h2⟩ := ptr_at hqv hb1
    rw [hμ] at h1; cases h1
    rw [h2, hbase]
  have hlen : bs.length ≠ 0 := by simpa using hbs
  -- the buffer's place
  obtain ⟨k, hk, a, cap, hua, hcap, ha, hroom, hmxc⟩ : ∃ k, c.μ 2 = some k ∧ ∃ a cap, u = .slice (some a) bs.length cap ∧ bs.length ≤ cap ∧ (cap ≠ 0 → a = ⟨k.b, k.base + 0, none⟩) ∧ k.base + 0 + cap * 1 ≤ k.size ∧ cap ≤ 9223372036854775807 := by
    cases huv with
    | own _ _ _ _ _ _ hv hi hle h0 h1 =>
      cases hm : c.μ 2 with
      | none => exact absurd (h0 (by rw [θ_of hb2, hm])).2.1 hlen
      | some k =>
        obtain ⟨a, cap, q1, q2, q3, q4⟩ := h1 k (by rw [θ_of hb2, hm])
        obtain ⟨_, _, _, q5, q6⟩ := hv
        rw [q1] at q5; cases q5
        exact ⟨k, rfl, a, cap, q1, q2, q3, q4, q6⟩
  have ha := ha (by omega)
  subst ha
  obtain ⟨cs2, fr2, k1, k2, k3, k4, k5, k6⟩ := blk_cells hr hb2 hk
  have c1 : c.at_ 1 p.b := .inl ⟨p, hμ, rfl⟩
  have c2 : c.at_ 2 k.b := .inl ⟨k, hk, rfl⟩
  have hne : k.b ≠ p.b := fun h => by have := hr.inj 1 2 p.b live1 live2 c1 (h ▸ c2); omega
  have hhid1 : c.hid 1 = [] := L1.1
  have hcs : cs = #[q, u] := by
    have h2 : cs.size = 2 := by omega
    obtain ⟨cl⟩ := cs
    match cl, h2 with
    | [x, y], _ => simp at hq hu; rw [hq, hu]
  let d : Cx := { H := [⟨0, true, .frame l⟩, ⟨0, true, .bld T e bs⟩], μ := c.μ, hid := fun i => (if i = 1 then [k.b] else c.hid i), w := c.w }
  have dlive : ∀ i, d.live i → i = 0 ∨ i = 1 := fun i hi => by
    obtain ⟨b, hb, _⟩ := live_blk hi
    have := getElem?_lt hb
    simp [d] at this
    omega
  have at0 : ∀ x, d.at_ 0 x → c.at_ 0 x := fun x hx => hx
  have at1 : ∀ x, d.at_ 1 x → x = p.b ∨ x = k.b := fun x hx => by
    rcases hx with ⟨k', hk', rfl⟩ | hx
    · have : c.μ 1 = some k' := hk'
      rw [hμ] at this; cases this; exact .inl rfl
    · simp [d] at hx; exact .inr hx
  have dO : ∀ x, d.O x → c.O x := fun x ⟨i, h1, h2⟩ => by
    rcases dlive i h1 with rfl | rfl
    · exact ⟨0, live0, at0 x h2⟩
    · rcases at1 x h2 with rfl | rfl
      · exact ⟨1, live1, c1⟩
      · exact ⟨2, live2, c2⟩
  have hd0 : d.H[0]? = some ⟨0, true, .frame l⟩ := rfl
  have hd1 : d.H[1]? = some ⟨0, true, .bld T e bs⟩ := rfl
  refine ⟨d, rfl, rfl, ?_, ?_, hv.move (c := c) (d := d) (n := 0) (Nat.le_refl _) (fun _ _ _ => rfl) (fun x h => .inl (dO x h)) (Nat.zero_le _) (fun i hi => by omega) hr0⟩
  · constructor
    · intro i b hb hbl
      rcases dlive i (live_of hb hbl) with rfl | rfl
      · cases hb; exact F
      · cases hb
        have : d.μ 1 = some p := hμ
        rw [this]
        refine ⟨hbase, hsize, q, u, fr, by rw [← hcs]; exact g1, fun o ho => g6 o (by omega) (by omega), .inr hq2, .inr ⟨k.b, k.base, cap, rfl, hua, by omega, cs2, fr2, k1, ?_, hcap, fun j x hx => ?_, ?_⟩⟩
        · rw [k2]; exact ⟨by omega, hmxc⟩
        · obtain ⟨y, h1, h2⟩ := k5 j (.int .u8 (x.toNat : Int)) (by simp [bytesAV, hx])
          rw [h1]
          cases h2; rfl
        · intro o h1 h2; exact k6 o h1 (by omega)
    · intro i j x hi hj hix hjx
      have n01 : ∀ y, c.at_ 0 y → c.at_ 1 y → False := fun y h1 h2 => by cases hr.inj 0 1 y live0 live1 h1 h2
      have n02 : ∀ y, c.at_ 0 y → c.at_ 2 y → False := fun y h1 h2 => by cases hr.inj 0 2 y live0 live2 h1 h2
      have n : ∀ y, c.at_ 0 y → d.at_ 1 y → False := fun y h1 h2 => by
        rcases at1 y h2 with rfl | rfl
        · exact n01 _ h1 c1
        · exact n02 _ h1 c2
      rcases dlive i hi with rfl | rfl <;> rcases dlive j hj with rfl | rfl
      · rfl
      · exact (n x (at0 x hix) hjx).elim
      · exact (n x (at0 x hjx) hix).elim
      · rfl
    · intro i k' hi hk'
      rcases dlive i hi with rfl | rfl
      · have : c.μ 0 = some k' := hk'
        rw [F.1] at this; cases this
      · have : c.μ 1 = some k' := hk'
        rw [hμ] at this; cases this
        simp [d]; exact fun h => hne h.symm
    · intro i x hi hx
      obtain ⟨j, h1, h2⟩ := dO x ⟨i, hi, hx⟩
      exact hr.lt j x h1 h2
  · exact {
      n := by rw [hn]; simp [d]
      old := fun i v m v' m' h h' => by
        have hi : i < 2 := by have := θ_lt h; rw [hn] at this; simpa using this
        have : i = 0 ∨ i = 1 := by omega
        rcases this with rfl | rfl
        · have : d.θ 0 = c.θ 0 := by rw [θ_of hb0, θ_of hd0]
          rw [this] at h'; exact he.old 0 v m v' m' h h'
        · have : d.θ 1 = c.θ 1 := by rw [θ_of hb1, θ_of hd1]
          rw [this] at h'; exact he.old 1 v m v' m' h h'
      dead := fun i hi h => by
        rw [hn] at hi
        simp at hi
        have : i = 0 ∨ i = 1 := by omega
        rcases this with rfl | rfl
        · have := he.dead 0 (by rw [hn]; simp) h; rw [θ_of hb0] at this; cases this
        · have := he.dead 1 (by rw [hn]; simp) h; rw [θ_of hb1] at this; cases this
      os := he.os
      tape := he.tape
      output := he.output
      size := he.size
      same := he.same
      own := fun x h => he.own x (dO x h) }

theorem freeze_ne (w : World) (a : Addr) (n x : Nat) (h : x ≠ a.block) : (w.freeze a n).heap[x]? = w.heap[x]? := by
  unfold World.freeze
  split
  · rfl
  · simp only [Array.getElem?_modify]
    rw [if_neg (Ne.symm h)]

theorem freeze_size (w : World) (a : Addr) (n : Nat) : (w.freeze a n).heap.size = w.heap.size := by
  unfold World.freeze
  split <;> simp

theorem freeze_rest (w : World) (a : Addr) (n : Nat) : (w.freeze a n).os = w.os ∧ (w.freeze a n).tape = w.tape ∧ (w.freeze a n).output = w.output := by
  unfold World.freeze
  split <;> exact ⟨rfl, rfl, rfl⟩

/-- its text; it is no builder any more -/
theorem BldP.string (B : BldP E.P T e fcc fstr) {bs : List UInt8} (hlen : bs.length ≤ 9223372036854775807) :
    BCalls E fstr [.ptr 1 0 0] [.bld T e bs] fun r ks => r = .str bs ∧ ks = [.cells T []] := by
  unfold BCalls
  intro l
  unfold ACalls
  intro c vs hH hr hg hl
  have hb0 : c.H[0]? = some ⟨0, true, .frame l⟩ := by rw [hH]; rfl
  have hb1 : c.H[1]? = some ⟨0, true, .bld T e bs⟩ := by rw [hH]; rfl
  have F := hr.blk 0 _ hb0 rfl
  have L1 := hr.blk 1 _ hb1 rfl
  have live0 : c.live 0 := live_of hb0 rfl
  have live1 : c.live 1 := live_of hb1 rfl
  obtain ⟨v0, rfl, hv0⟩ : ∃ v, vs = [v] ∧ VR c (.ptr 1 0 0) v := by
    match vs, hl.len with
    | [v], _ => exact ⟨v, rfl, hl.at_ 0 _ v rfl rfl⟩
  obtain ⟨p, hμ, rfl⟩ := ptr_at hv0 hb1
  rw [hμ] at L1
  obtain ⟨hbase, hsize, q, v, fr, hcell, hfr, hq, hbuf⟩ := L1
  rw [hbase]
  simp only [Nat.zero_add]
  have hcell1 : c.w.cell? ⟨p.b, 1, none⟩ = some v := by rw [cell_heap hcell]; rfl
  have c1 : c.at_ 1 p.b := .inl ⟨p, hμ, rfl⟩
  obtain ⟨w1, st, hst, hcalls, hoth, hsz, hos, htape, hout⟩ : ∃ w1, ∃ st : ByteArray, st.data.toList = bs ∧ (Calls E.P fstr #[.pointer (some ⟨p.b, 0, none⟩)] c.w fun e w' => e = .returned (.string st) ∧ w' = w1) ∧
      (∀ x, (x = p.b ∨ ¬ c.at_ 1 x) → w1.heap[x]? = c.w.heap[x]?) ∧ w1.heap.size = c.w.heap.size ∧ w1.os = c.w.os ∧ w1.tape = c.w.tape ∧ w1.output = c.w.output := by
    rcases hbuf with ⟨h1, h2, h3⟩ | ⟨h, base, cap, h1, h2, h3, cs, fr', g1, g2, g3, g4, g5⟩
    · subst h3
      exact ⟨_, _, rfl, B.nil p.b c.w (by rw [hcell1, h2]), fun _ _ => rfl, rfl, rfl, rfl, rfl⟩
    · by_cases hbs : bs = []
      · subst hbs
        exact ⟨_, _, rfl, B.room p.b c.w h base cap (by omega) (by rw [hcell1, h2]; rfl), fun _ _ => rfl, rfl, rfl, rfl, rfl⟩
      · refine ⟨_, _, by simp, B.full p.b c.w h base cap bs hbs g3 cs.size (by simp [World.shape?, g1]) (by omega) hlen (fun j x hx => ?_) (by rw [hcell1, h2]), fun x hx => ?_, freeze_size _ _ _, (freeze_rest _ _ _).1, (freeze_rest _ _ _).2.1, (freeze_rest _ _ _).2.2⟩
        · rw [addr_add, cell_heap g1]; exact g4 j x hx
        · refine freeze_ne c.w.drew _ _ _ (fun he => ?_)
          have hx' : x ∈ c.hid 1 := by rw [he, h1]; simp
          rcases hx with rfl | hx
          · exact hr.hid 1 p live1 hμ hx'
          · exact hx (.inr hx')
  let d : Cx := { H := [⟨0, true, .frame l⟩, ⟨0, true, .cells T []⟩], μ := c.μ, hid := fun i => (if i = 0 then c.hid 0 else []), w := w1 }
  have dlive : ∀ i, d.live i → i = 0 ∨ i = 1 := fun i hi => by
    obtain ⟨b, hb, _⟩ := live_blk hi
    have := getElem?_lt hb
    simp [d] at this
    omega
  have at0 : ∀ x, d.at_ 0 x → c.at_ 0 x := fun x hx => hx
  have at1 : ∀ x, d.at_ 1 x → x = p.b := fun x hx => by
    rcases hx with ⟨k', hk', rfl⟩ | hx
    · have : c.μ 1 = some k' := hk'
      rw [hμ] at this; cases this; rfl
    · simp [d] at hx
  have dO : ∀ x, d.O x → c.O x := fun x ⟨i, h1, h2⟩ => by
    rcases dlive i h1 with rfl | rfl
    · exact ⟨0, live0, at0 x h2⟩
    · rw [at1 x h2]; exact ⟨1, live1, c1⟩
  have hd0 : d.H[0]? = some ⟨0, true, .frame l⟩ := rfl
  have hd1 : d.H[1]? = some ⟨0, true, .cells T []⟩ := rfl
  have n01 : ∀ y, c.at_ 0 y → c.at_ 1 y → False := fun y h1 h2 => by cases hr.inj 0 1 y live0 live1 h1 h2
  have E1 : Ext c d := {
    n := by rw [hH]; simp [d]
    old := fun i v m v' m' h h' => by
      have hi : i < 2 := by have := θ_lt h; rw [hH] at this; simpa using this
      have : i = 0 ∨ i = 1 := by omega
      rcases this with rfl | rfl
      · have : d.θ 0 = c.θ 0 := by rw [θ_of hb0, θ_of hd0]
        rw [this, h] at h'; cases h'; exact ⟨Nat.le_refl _, fun _ => rfl⟩
      · have : d.θ 1 = c.θ 1 := by rw [θ_of hb1, θ_of hd1]
        rw [this, h] at h'; cases h'; exact ⟨Nat.le_refl _, fun _ => rfl⟩
    dead := fun i hi h => by
      rw [hH] at hi
      simp at hi
      have : i = 0 ∨ i = 1 := by omega
      rcases this with rfl | rfl
      · rw [θ_of hb0] at h; cases h
      · rw [θ_of hb1] at h; cases h
    os := hos
    tape := htape
    output := hout
    size := Nat.le_of_eq hsz.symm
    same := fun x hx ho => hoth x (.inr fun h => ho ⟨1, live1, h⟩)
    own := fun x h => .inl (dO x h) }
  refine .inl ⟨fun w => B.estr _ w, hcalls.mono fun en w' ⟨h1, h2⟩ => ⟨_, h1, d, .str bs, h2.symm, ?_, E1, .str bs st hst, rfl, [.cells T []], rfl, rfl, rfl, rfl, rfl⟩⟩
  constructor
  · intro i b hb hbl
    rcases dlive i (live_of hb hbl) with rfl | rfl
    · cases hb
      refine ⟨F.1, F.2.1, fun pr hp => ?_⟩
      show w1.heap[pr.1]? = _
      rw [hoth _ (.inr fun h => n01 pr.1 (.inr (by rw [F.2.1]; exact List.mem_map_of_mem hp)) h)]
      exact F.2.2 pr hp
    · cases hb
      have : d.μ 1 = some p := hμ
      rw [this]
      exact ⟨rfl, by simp, #[q, v], fr, (hoth _ (.inl rfl)).trans hcell, hsize.symm, by simp [hbase], fun j x hx => by (simp at hx), fun o _ ho => hfr o (by omega)⟩
  · intro i j x hi hj hix hjx
    rcases dlive i hi with rfl | rfl <;> rcases dlive j hj with rfl | rfl
    · rfl
    · exact (n01 x (at0 x hix) (at1 x hjx ▸ c1)).elim
    · exact (n01 x (at0 x hjx) (at1 x hix ▸ c1)).elim
    · rfl
  · intro i k hi hk
    rcases dlive i hi with rfl | rfl
    · have : c.μ 0 = some k := hk
      rw [F.1] at this; cases this
    · simp [d]
  · intro i x hi hx
    obtain ⟨j, h1, h2⟩ := dO x ⟨i, hi, hx⟩
    show x < w1.heap.size
    rw [hsz]
    exact hr.lt j x h1 h2

theorem RetG.fold {l : List (Nat × Obj)} {bs0 bs : List UInt8} {r : AV} {v2 : Nat} {H : List Blk} {Q : AV → List BK → Prop} (hbs : bs ≠ []) (hr0 : hb 0 r = true)
    (hH : H = [⟨0, true, .frame l⟩, ⟨0, true, .cells T [.ptr 1 0 0, .own 2 v2 0 bs.length 1]⟩, ⟨v2, true, .cells e (bytesAV bs)⟩]) (hq : Q r [.bld T e bs]) :
    RetG E (frmB l [.bld T e bs0]) r H (RB l [.bld T e bs0] Q) := by
  subst hH
  unfold RetG
  exact ⟨r, _, WkV.fold hbs hr0, hr0, [.bld T e bs], rfl, rfl, rfl, hq⟩

theorem bytesAV_append (a b : List UInt8) : bytesAV (a ++ b) = bytesAV a ++ bytesAV b := by simp [bytesAV]
theorem bytesAV_length (a : List UInt8) : (bytesAV a).length = a.length := by simp [bytesAV]
theorem bytesAV_take (a : List UInt8) : List.take a.length (bytesAV a) = bytesAV a := List.take_of_length_le (by simp [bytesAV])

/-- nothing is written to an empty builder -/
theorem BldP.empty (B : BldP E.P T e fcc fstr) {f : Nat} (hent : ∀ vs w, (callFunc f vs).run E.P w = .ok (.enter f vs) w)
    (hws : ∀ (b : Nat) (w w1 : World) (v : Value), (Calls E.P fcc #[.pointer (some ⟨b, 0, none⟩)] w fun e w' => e = .returned (.tuple #[]) ∧ w' = w1) → w1.cell? ⟨b, 1, none⟩ = some v → (∃ a cap, v = .slice a 0 cap) → w1.frozen? ⟨b, 1, none⟩ = false →
      Calls E.P f #[.pointer (some ⟨b, 0, none⟩), .string ⟨#[]⟩] w fun e w' => e = .returned (.tuple #[.int .i64 0, .nilIface]) ∧ w' = w1.setCell ⟨b, 1, none⟩ v) :
    BCalls E f [.ptr 1 0 0, .str []] [.bld T e []] fun r ks => r = .tup [.int .i64 0, .lit .nilIface] ∧ ks = [.bld T e []] := by
  unfold BCalls
  intro l
  unfold ACalls
  intro c vs hH hr hg hl
  have hb0 : c.H[0]? = some ⟨0, true, .frame l⟩ := by rw [hH]; rfl
  have hb1 : c.H[1]? = some ⟨0, true, .bld T e []⟩ := by rw [hH]; rfl
  have F := hr.blk 0 _ hb0 rfl
  have L1 := hr.blk 1 _ hb1 rfl
  have live0 : c.live 0 := live_of hb0 rfl
  have live1 : c.live 1 := live_of hb1 rfl
  obtain ⟨v0, v1, rfl, hv0, hv1⟩ : ∃ v u, vs = [v, u] ∧ VR c (.ptr 1 0 0) v ∧ VR c (.str []) u := by
    match vs, hl.len with
    | [v, u], _ => exact ⟨v, u, rfl, hl.at_ 0 _ v rfl rfl, hl.at_ 1 _ u rfl rfl⟩
  have hst : v1 = .string ⟨#[]⟩ := by
    cases hv1 with
    | str _ st h =>
      obtain ⟨⟨d⟩⟩ := st
      simp at h; subst h; rfl
  subst hst
  obtain ⟨p, hμ, rfl⟩ := ptr_at hv0 hb1
  rw [hμ] at L1
  obtain ⟨hbase, hsize, q, v, fr, hcell, hfr, hq, hbuf⟩ := L1
  rw [hbase]
  simp only [Nat.zero_add]
  have hcell0 : c.w.cell? ⟨p.b, 0, none⟩ = some q := by rw [cell_heap hcell]; rfl
  obtain ⟨w1, hcalls, hw1, hoth, hsz, hos, htape, hout⟩ : ∃ w1, (Calls E.P fcc #[.pointer (some ⟨p.b, 0, none⟩)] c.w fun e w' => e = .returned (.tuple #[]) ∧ w' = w1) ∧
      w1.heap[p.b]? = some (.cells #[.pointer (some ⟨p.b, 0, none⟩), v] T fr) ∧ (∀ x, x ≠ p.b → w1.heap[x]? = c.w.heap[x]?) ∧ w1.heap.size = c.w.heap.size ∧ w1.os = c.w.os ∧ w1.tape = c.w.tape ∧ w1.output = c.w.output := by
    rcases hq with rfl | rfl
    · refine ⟨_, B.fresh p.b c.w hcell0 (by simp [World.shape?, hcell]) (by have := hfr 0 (by omega); simp [World.frozen?, hcell]; omega), ?_⟩
      have hs := setCell_eq_setRow c.w p.b 0 #[.pointer none, v] T fr (.pointer (some ⟨p.b, 0, none⟩)) hcell
      rw [hs]
      exact ⟨setRow_heap _ _ _ _ _ _ hcell, fun x hx => setRow_heap_ne _ _ _ _ hx, setRow_size _ _ _, rfl, rfl, rfl⟩
    · exact ⟨_, B.used p.b c.w hcell0, hcell, fun _ _ => rfl, rfl, rfl, rfl, rfl⟩
  have hv : ∃ a cap, v = .slice a 0 cap := by
    rcases hbuf with ⟨_, h2, _⟩ | ⟨h, base, cap, _, h2, _⟩
    · exact ⟨_, _, h2⟩
    · exact ⟨_, _, h2⟩
  have hc1 : w1.cell? ⟨p.b, 1, none⟩ = some v := by rw [cell_heap hw1]; rfl
  have hcalls2 := hws p.b c.w w1 v hcalls hc1 hv (by have := hfr 1 (by omega); simp [World.frozen?, hw1]; omega)
  have hw2 : w1.setCell ⟨p.b, 1, none⟩ v = w1 := by
    rw [setCell_eq_setRow w1 p.b 1 _ T fr v hw1]
    exact setRow_self w1 p.b _ T fr hw1
  rw [hw2] at hcalls2
  have c1 : c.at_ 1 p.b := .inl ⟨p, hμ, rfl⟩
  let d : Cx := { c with w := w1 }
  have E1 : Ext c d := {
    n := Nat.le_refl _
    old := fun i v m v' m' h h' => by
      have : d.θ i = c.θ i := rfl
      rw [this, h] at h'; cases h'; exact ⟨Nat.le_refl _, fun _ => rfl⟩
    dead := fun _ _ h => h
    os := hos
    tape := htape
    output := hout
    size := Nat.le_of_eq hsz.symm
    same := fun x hx ho => hoth x (fun hxp => ho (hxp ▸ ⟨1, live1, c1⟩))
    own := fun x h => .inl h }
  have dlive : ∀ i, c.live i → i = 0 ∨ i = 1 := fun i hi => by
    obtain ⟨b, hb, _⟩ := live_blk hi
    have := getElem?_lt hb
    rw [hH] at this
    simp at this
    omega
  refine .inl ⟨fun w => hent _ w, hcalls2.mono fun en w' ⟨h1, h2⟩ => ⟨_, h1, d, .tup [.int .i64 0, .lit .nilIface], h2.symm, ?_, E1, ?_, rfl, [.bld T e []], hH, rfl, rfl, rfl, rfl⟩⟩
  · constructor
    · intro i b hb hbl
      rcases dlive i (live_of (c := c) hb hbl) with rfl | rfl
      · have : b = ⟨0, true, .frame l⟩ := by
          have hb' : c.H[0]? = some b := hb
          rw [hb0] at hb'; exact (Option.some.inj hb').symm
        subst this
        refine ⟨F.1, F.2.1, fun pr hp => ?_⟩
        have hne : pr.1 ≠ p.b := fun he => by
          have := hr.inj 0 1 p.b live0 live1 (.inr (by rw [F.2.1]; exact List.mem_map.mpr ⟨pr, hp, he⟩)) c1
          cases this
        show w1.heap[pr.1]? = _
        rw [hoth _ hne]; exact F.2.2 pr hp
      · have : b = ⟨0, true, .bld T e []⟩ := by
          have hb' : c.H[1]? = some b := hb
          rw [hb1] at hb'; exact (Option.some.inj hb').symm
        subst this
        show BR d (c.μ 1) (c.hid 1) _
        rw [hμ]
        refine ⟨hbase, hsize, _, v, fr, hw1, hfr, .inr rfl, ?_⟩
        rcases hbuf with h | ⟨h, base, cap, h1, h2, h3, h4⟩
        · exact .inl h
        · refine .inr ⟨h, base, cap, h1, h2, h3, bytesAt_frame h4 (hoth h (fun he => hr.hid 1 p live1 hμ (by rw [h1, he]; simp)))⟩
    · exact hr.inj
    · exact hr.hid
    · intro i x h1 h2
      show x < w1.heap.size
      rw [hsz]; exact hr.lt i x h1 h2
  · refine .tup _ _ rfl (fun j x u hx hu => ?_)
    match j, hx, hu with
    | 0, hx, hu => cases hx; cases hu; exact .int _ _ (by constructor <;> decide)
    | 1, hx, hu => cases hx; cases hu; exact .lit _
end
end Ink

namespace Ink
open Go
section
variable {E : Env} {n0 : List Blk}

/-- a nil slice, seen as one of the function's own -/
theorem Wk.ghost {tm : List AV} {H : List Blk} (j sz : Nat) (typ : TypeId) (hj : getK tm j = some (.lit (.slice none 0 0))) :
    Wk E n0 ⟨tm, H⟩ ⟨setK tm j (.own (lenK H) 0 0 0 sz) id, appK H [⟨0, true, .cells typ []⟩] id⟩ := by
  rw [getK_eq] at hj
  rw [setK_eq, appK_eq, lenK_eq]
  unfold Wk
  intro c0 c a hn hs
  have A := push_ok hs.hr (.cells typ []) none c.w rfl rfl rfl (Nat.le_refl _) (fun _ _ => rfl) (fun l hl => by cases hl) (fun _ => ⟨rfl, by simp, rfl⟩)
  have hH : c.H = H := hs.H
  refine ⟨c.push (.cells typ []) none c.w, rfl, ?_, A.1, ?_, hs.ext.trans A.2, hs.g.ext A.2, hs.defers⟩
  · show c.H ++ [newBlk _] = _
    rw [hH]; rfl
  · refine ⟨by simpa using hs.tr.len, fun t x v hx hv => ?_⟩
    simp only [id, List.getElem?_set] at hx
    split at hx
    · rename_i he
      subst he
      split at hx
      · cases hx
        have := hs.tr.at_ j _ v hj hv
        have hv : v = .slice none 0 0 := by cases this; rfl
        subst hv
        have hθ := push_θn c (.cells typ []) none c.w
        rw [hH] at hθ
        refine .own _ _ _ _ _ _ ⟨_, _, _, rfl, by omega⟩ (by simp [Cx.push, hH]) (fun v0 m hm => Nat.zero_le _) (fun _ => ⟨rfl, rfl, rfl⟩) (fun l hl => ?_)
        rw [hθ] at hl; cases hl
      · cases hx
    · exact (hs.tr.at_ t x v hx hv).ext A.2
end

mutual
/-- no handle to block i -/
def nh (i : Nat) : AV → Bool
  | .ptr j _ _ => !Nat.beq j i
  | .own j _ _ _ _ => !Nat.beq j i
  | .ownC j _ _ _ _ _ => !Nat.beq j i
  | .map j _ => !Nat.beq j i
  | .imm _ l => nhLL i l
  | .pimm l => nhL i l
  | .fn _ a b => nhL i a && nhL i b
  | .iface _ v => nh i v
  | .agg l => nhL i l
  | .tup l => nhL i l
  | _ => true
def nhL (i : Nat) : List AV → Bool
  | [] => true
  | x :: r => nh i x && nhL i r
def nhLL (i : Nat) : List (List AV) → Bool
  | [] => true
  | x :: r => nhL i x && nhLL i r
end

theorem nhL_iff {n : Nat} : ∀ {l : List AV}, nhL n l = true ↔ ∀ x ∈ l, nh n x = true
  | [] => by simp [nhL]
  | x :: r => by simp [nhL, nhL_iff (l := r)]

theorem nhLL_iff {n : Nat} : ∀ {l : List (List AV)}, nhLL n l = true ↔ ∀ x ∈ l, ∀ y ∈ x, nh n y = true
  | [] => by simp [nhLL]
  | x :: r => by simp [nhLL, nhLL_iff (l := r), nhL_iff]

def nhKV (n : Nat) : List (AV × AV) → Bool
  | [] => true
  | (a, b) :: r => nh n a && nh n b && nhKV n r

theorem nhKV_iff {n : Nat} : ∀ {l : List (AV × AV)}, nhKV n l = true ↔ ∀ x ∈ l, nh n x.1 = true ∧ nh n x.2 = true
  | [] => by simp [nhKV]
  | (a, b) :: r => by simp [nhKV, nhKV_iff (l := r), and_assoc]

def nhB (n : Nat) (b : Blk) : Bool :=
  match b.k with
  | .cells _ c => nhL n c
  | .map kv => nhKV n kv
  | _ => true

def nhH (n : Nat) : List Blk → Bool
  | [] => true
  | b :: r => nhB n b && nhH n r

theorem nhH_iff {n : Nat} : ∀ {l : List Blk}, nhH n l = true ↔ ∀ x ∈ l, nhB n x = true
  | [] => by simp [nhH]
  | b :: r => by simp [nhH, nhH_iff (l := r)]

/-- where one block's version alone changes -/
theorem VR.other {c d : Cx} {i : Nat} (hw : d.w = c.w) (hO : ∀ x, d.O x → c.O x) (hn : c.H.length ≤ d.H.length) (hθ : ∀ j, j ≠ i → d.θ j = c.θ j) {a : AV} {v : Value} (h : VR c a v) : nh i a = true → VR d a v := by
  induction h with
  | top v => intro _; exact .top v
  | int k n h => intro _; exact .int k n h
  | bool b => intro _; exact .bool b
  | str l s h => intro _; exact .str l s h
  | lit v => intro _; exact .lit v
  | cell1 v h => intro _; exact .cell1 v h
  | ptr j ver off v hv hi hle h =>
    intro hp
    have hj : j ≠ i := by intro e; subst e; simp [nh] at hp
    refine .ptr j ver off v hv (by omega) ?_ ?_ <;> rw [hθ j hj]
    · exact hle
    · exact h
  | own j ver off len sz v hv hi hle h0 h =>
    intro hp
    have hj : j ≠ i := by intro e; subst e; simp [nh] at hp
    refine .own j ver off len sz v hv (by omega) ?_ ?_ ?_ <;> rw [hθ j hj]
    · exact hle
    · exact h0
    · exact h
  | ownC j ver off len cap sz v h hc ih =>
    intro hp
    exact .ownC j ver off len cap sz v (ih (by simpa [nh] using hp)) hc
  | map j ver v hv hi hle h0 h =>
    intro hp
    have hj : j ≠ i := by intro e; subst e; simp [nh] at hp
    refine .map j ver v hv (by omega) ?_ ?_ ?_ <;> rw [hθ j hj]
    · exact hle
    · exact h0
    · exact h
  | immE sz a cap => intro _; exact .immE sz a cap
  | imm sz l a cap f hcap hsz hsc hb' hw' hs hcell hrel ih =>
    intro hp
    have hp' := nhLL_iff.mp (by simpa [nh] using hp : nhLL i l = true)
    refine .imm sz l a cap f hcap hsz hsc (fun ho => hb' (hO _ ho)) (by rw [hw]; exact hw') hs (fun j hj => by rw [hw]; exact hcell j hj) (fun j x hx => ih j x hx ?_)
    obtain ⟨y, hy, hxy⟩ := List.mem_flatten.mp (List.mem_of_getElem? hx)
    exact hp' y hy x hxy
  | pimm l a f hsc hb' hw' hs hcell hrel ih =>
    intro hp
    have hp' := nhL_iff.mp (by simpa [nh] using hp : nhL i l = true)
    exact .pimm l a f hsc (fun ho => hb' (hO _ ho)) (by rw [hw]; exact hw') hs (fun j hj => by rw [hw]; exact hcell j hj) (fun j x hx => ih j x hx (hp' x (List.mem_of_getElem? hx)))
  | fn f first cap vf vc hlf hlc hf hc ihf ihc =>
    intro hp
    simp only [nh, Bool.and_eq_true, nhL_iff] at hp
    exact .fn f first cap vf vc hlf hlc (fun j x v hx hv => ihf j x v hx hv (hp.1 x (List.mem_of_getElem? hx))) (fun j x v hx hv => ihc j x v hx hv (hp.2 x (List.mem_of_getElem? hx)))
  | iface t a v h ih => intro hp; exact .iface t a v (ih (by simpa [nh] using hp))
  | agg l vs hsc hl h ih =>
    intro hp
    simp only [nh, nhL_iff] at hp
    exact .agg l vs hsc hl (fun j x v hx hv => ih j x v hx hv (hp x (List.mem_of_getElem? hx)))
  | tup l vs hl h ih =>
    intro hp
    simp only [nh, nhL_iff] at hp
    exact .tup l vs hl (fun j x v hx hv => ih j x v hx hv (hp x (List.mem_of_getElem? hx)))

/-- a value, its block's version set back -/
def Rv (i ver : Nat) (x y : AV) : Prop := (x = y ∧ nh i y = true) ∨ ∃ off len sz, x = .own i ver off len sz ∧ y = .own i 0 off len sz

def HasV (i ver : Nat) (tm : List AV) : List (Nat × AV) → Prop
  | [] => True
  | (j, v) :: r => (∃ x, getK tm j = some x ∧ Rv i ver x v) ∧ HasV i ver tm r

theorem hasV_mem {i ver : Nat} {tm : List AV} : ∀ {l : List (Nat × AV)}, HasV i ver tm l → ∀ p ∈ l, ∃ x, tm[p.1]? = some x ∧ Rv i ver x p.2
  | [], _, p, h => by simp at h
  | (j, v) :: r, h, p, hp => by
    obtain ⟨⟨x, h1, h2⟩, h3⟩ := h
    rcases List.mem_cons.mp hp with rfl | hp
    · rw [getK_eq] at h1; exact ⟨x, h1, h2⟩
    · exact hasV_mem h3 p hp

section
variable {E : Env} {n0 : List Blk}

/-- the version of a block of the function's own is set back -/
theorem Wk.ver {tm : List AV} {H : List Blk} {l : List (Nat × AV)} {n : Nat} (i ver : Nat) {k : BK} (hi : Nat.ble (lenK n0) i = true) (hH : getK H i = some ⟨ver, true, k⟩) (hn : lenK tm = n) (hl : HasV i ver tm l) {H' : List Blk} (hH' : setK H i ⟨0, true, k⟩ id = H') (hnh : nhH i H' = true) :
    Wk E n0 ⟨tm, H⟩ ⟨Ink.slots n l, H'⟩ := by
  rw [getK_eq] at hH
  rw [setK_eq] at hH'
  rw [lenK_eq] at hi hn
  have hi := Nat.le_of_ble_eq_true hi
  unfold Wk
  intro c0 c a hn0 hs
  have hcH : c.H = H := hs.H
  have hci : c.H[i]? = some ⟨ver, true, k⟩ := by rw [hcH]; exact hH
  have hlt : i < c.H.length := getElem?_lt hci
  let d : Cx := { c with H := c.H.set i ⟨0, true, k⟩ }
  have hdi : d.H[i]? = some ⟨0, true, k⟩ := by simp [d, hlt]
  have hdo : ∀ j, j ≠ i → d.H[j]? = c.H[j]? := fun j hj => by simp only [d, List.getElem?_set_ne (Ne.symm hj)]
  have hθ : ∀ j, j ≠ i → d.θ j = c.θ j := fun j hj => by simp only [Cx.θ, hdo j hj]; rfl
  have hlive : ∀ j, d.live j ↔ c.live j := fun j => by
    by_cases hj : j = i
    · subst hj; exact ⟨fun _ => live_of hci rfl, fun _ => live_of hdi rfl⟩
    · simp only [Cx.live, hθ j hj]
  have hO : ∀ x, d.O x → c.O x := fun x ⟨j, h1, h2⟩ => ⟨j, (hlive j).mp h1, h2⟩
  have mv : ∀ {a : AV} {v : Value}, VR c a v → nh i a = true → VR d a v := fun h => VR.other (c := c) (d := d) rfl hO (by simp [d]) hθ h
  have hnhb := nhH_iff.mp hnh
  refine ⟨d, rfl, ?_, ?_, ?_, ?_, ⟨hs.g.le, fun x hx => ⟨(hs.g.at_ x hx).1, fun ho => (hs.g.at_ x hx).2 (hO x ho)⟩⟩, hs.defers⟩
  · show c.H.set i _ = H'
    rw [hcH]; exact hH'
  · constructor
    · intro j b hb hbl
      obtain ⟨b0, hb0, hk0⟩ : ∃ b0, c.H[j]? = some b0 ∧ b0.live = true ∧ b0.k = b.k := by
        by_cases hj : j = i
        · subst hj; rw [hdi] at hb; cases hb; exact ⟨_, hci, rfl, rfl⟩
        · rw [hdo j hj] at hb; exact ⟨b, hb, hbl, rfl⟩
      have B := hs.hr.blk j b0 hb0 hk0.1
      have hdH : d.H = H' := by show c.H.set i _ = H'; rw [hcH]; exact hH'
      have hbm := hnhb b (hdH ▸ List.mem_of_getElem? hb)
      rw [hk0.2] at B
      show BR d (c.μ j) (c.hid j) b.k
      cases hk : b.k with
      | cells typ l =>
        rw [hk] at B
        obtain ⟨h1, h2, h3⟩ := B
        simp only [nhB, hk] at hbm
        have hbm := nhL_iff.mp hbm
        refine ⟨h1, h2, ?_⟩
        cases hm : c.μ j with
        | none => rw [hm] at h3; exact h3
        | some p =>
          rw [hm] at h3
          obtain ⟨cs, fr, g1, g2, g3, g4, g5⟩ := h3
          exact ⟨cs, fr, g1, g2, g3, fun j x hx => let ⟨v, a, b⟩ := g4 j x hx; ⟨v, a, mv b (hbm x (List.mem_of_getElem? hx))⟩, g5⟩
      | bld T e bs => rw [hk] at B; exact B
      | map kv =>
        rw [hk] at B
        obtain ⟨h1, h2, h3⟩ := B
        simp only [nhB, hk] at hbm
        have hbm := nhKV_iff.mp hbm
        refine ⟨h1, h2, ?_⟩
        cases hm : c.μ j with
        | none => rw [hm] at h3; exact h3
        | some p =>
          rw [hm] at h3
          obtain ⟨es, clk, g1, g2, g3, g4⟩ := h3
          exact ⟨es, clk, g1, g2, fun j x en hx hen => ⟨mv (g3 j x en hx hen).1 (hbm x (List.mem_of_getElem? hx)).1, mv (g3 j x en hx hen).2 (hbm x (List.mem_of_getElem? hx)).2⟩, g4⟩
      | frame l => rw [hk] at B; exact B
    · intro j j' x h1 h2 h3 h4
      exact hs.hr.inj j j' x ((hlive j).mp h1) ((hlive j').mp h2) h3 h4
    · intro j l h1 h2
      exact hs.hr.hid j l ((hlive j).mp h1) h2
    · intro j x h1 h2
      exact hs.hr.lt j x ((hlive j).mp h1) h2
  · obtain ⟨h1, h2⟩ := slots_go l n 0
    refine ⟨by show (slots.go n l 0).length = _; rw [h1, ← hn]; exact hs.tr.len, fun t x v hx hv => ?_⟩
    have ht : t < n := by
      rw [← h1]
      rcases Nat.lt_or_ge t (slots.go n l 0).length with h' | h'
      · exact h'
      · rw [show (Ink.slots n l) = slots.go n l 0 from rfl, List.getElem?_eq_none h'] at hx; cases hx
    rw [show (Ink.slots n l) = slots.go n l 0 from rfl, h2 t ht, Nat.zero_add] at hx
    cases hx
    rcases slots_at l t with h3 | ⟨p, hp, h3, h4⟩
    · rw [h3]; exact .top v
    · rw [h4]
      obtain ⟨x, hx, hr⟩ := hasV_mem hl p hp
      rw [h3] at hx
      have hvr := hs.tr.at_ t x v hx hv
      rcases hr with ⟨rfl, hnh'⟩ | ⟨off, len, sz, rfl, hy⟩
      · exact mv hvr hnh'
      · rw [hy]
        have θi : c.θ i = some (ver, c.μ i) := θ_of hci
        have θd : d.θ i = some (0, c.μ i) := θ_of hdi
        cases hvr with
        | own _ _ _ _ _ _ g1 g2 g3 g4 g5 =>
          refine .own i 0 off len sz v g1 (by simp [d, hlt]) (fun _ _ _ => Nat.zero_le _) (fun h => ?_) (fun k' h => ?_)
          · rw [θd] at h
            exact g4 (by rw [θi]; cases hm : c.μ i with
              | none => rfl
              | some q => rw [hm] at h; cases h)
          · rw [θd] at h
            exact g5 k' (by rw [θi]; cases hm : c.μ i with
              | none => rw [hm] at h; cases h
              | some q => rw [hm] at h; cases h; rfl)
  · have e := hs.ext
    have hlen : c0.H.length = n0.length := by rw [hn0.1]
    exact {
      n := by have := e.n; simp [d]; exact this
      old := fun j v m v' m' h h' => by
        have hj : j ≠ i := by have := θ_lt h; omega
        rw [hθ j hj] at h'; exact e.old j v m v' m' h h'
      dead := fun j hj h => by rw [hθ j (by omega)]; exact e.dead j hj h
      os := e.os
      tape := e.tape
      output := e.output
      size := e.size
      same := e.same
      own := fun x h => e.own x (hO x h) }

/-- a loop, whose start is known otherwise first -/
theorem LoopG.w {body : (Ex → St → Prop) → St → Prop} {Q : Ex → St → Prop} {s : St} {α : Type} (Inv : α → Prop) (n : Nat) (l : α → List (Nat × AV)) (H : α → List Blk) (m : α → Nat) (x0 : α) (hi : Inv x0)
    (hw : Wk E n0 s ⟨Ink.slots n (l x0), H x0⟩)
    (h : ∀ x, Inv x → slotsK n (l x) 0 fun tm => body (fun e s' => match e with
      | .normal => ∃ x', (Inv x' ∧ m x' < m x) ∧ Wk E n0 s' ⟨Ink.slots n (l x'), H x'⟩
      | e => Q e s') ⟨tm, H x⟩) : LoopG E n0 body Q s := by
  unfold LoopG
  refine ⟨{x // Inv x}, fun x => ⟨Ink.slots n (l x.1), H x.1⟩, fun x => m x.1, ⟨x0, hi⟩, hw, fun x => ?_⟩
  have := h x.1 x.2
  rw [slotsK_eq] at this
  have hq : (fun (e : Ex) (s' : St) => match e with
      | .normal => ∃ x' : {x // Inv x}, Wk E n0 s' ⟨Ink.slots n (l x'.1), H x'.1⟩ ∧ m x'.1 < m x.1
      | e => Q e s') = (fun e s' => match e with
      | .normal => ∃ x', (Inv x' ∧ m x' < m x.1) ∧ Wk E n0 s' ⟨Ink.slots n (l x'), H x'⟩
      | e => Q e s') := by
    funext e s'
    cases e with
    | normal => exact propext ⟨fun ⟨x', h1, h2⟩ => ⟨x'.1, ⟨x'.2, h2⟩, h1⟩, fun ⟨x', ⟨h1, h2⟩, h3⟩ => ⟨⟨x', h1⟩, h3, h2⟩⟩
    | exit i => rfl
    | ret => rfl
    | goto k => rfl
  exact (congrArg (fun q => body q ⟨Ink.slots n (l x.1), H x.1⟩) hq).mpr this

/-- a loop by jumps, whose start is known otherwise first -/
theorem LoopJ.w {body : (Ex → St → Prop) → St → Prop} {Q : Ex → St → Prop} {s : St} {lab : Nat} {α : Type} (Inv : α → Prop) (n : Nat) (l : α → List (Nat × AV)) (H : α → List Blk) (m : α → Nat) (x0 : α) (hi : Inv x0)
    (hw : Wk E n0 s ⟨Ink.slots n (l x0), H x0⟩)
    (h : ∀ x, Inv x → slotsK n (l x) 0 fun tm => body (fun e s' => match e with
      | .goto k => k = lab ∧ ∃ x', (Inv x' ∧ m x' < m x) ∧ Wk E n0 s' ⟨Ink.slots n (l x'), H x'⟩
      | e => Q e s') ⟨tm, H x⟩) : LoopJ E n0 lab body Q s := by
  unfold LoopJ
  refine ⟨{x // Inv x}, fun x => ⟨Ink.slots n (l x.1), H x.1⟩, fun x => m x.1, ⟨x0, hi⟩, hw, fun x => ?_⟩
  have := h x.1 x.2
  rw [slotsK_eq] at this
  have hq : (fun (e : Ex) (s' : St) => match e with
      | .goto k => k = lab ∧ ∃ x' : {x // Inv x}, Wk E n0 s' ⟨Ink.slots n (l x'.1), H x'.1⟩ ∧ m x'.1 < m x.1
      | e => Q e s') = (fun e s' => match e with
      | .goto k => k = lab ∧ ∃ x', (Inv x' ∧ m x' < m x.1) ∧ Wk E n0 s' ⟨Ink.slots n (l x'), H x'⟩
      | e => Q e s') := by
    funext e s'
    cases e with
    | goto k => exact propext ⟨fun ⟨h0, x', h1, h2⟩ => ⟨h0, x'.1, ⟨x'.2, h2⟩, h1⟩, fun ⟨h0, x', ⟨h1, h2⟩, h3⟩ => ⟨h0, ⟨x', h1⟩, h3, h2⟩⟩
    | exit i => rfl
    | ret => rfl
    | normal => rfl
  exact (congrArg (fun q => body q ⟨Ink.slots n (l x.1), H x.1⟩) hq).mpr this

/-- a byte is loaded -/
theorem load_u8 {tm : List AV} {H : List Blk} {a : AOpd} {i ver off : Nat} {t : TypeId} {l : List UInt8} (j : Nat) (hj : j < l.length) (h1 : a.ev tm = .ptr i ver off) (h2 : liveCells H i ver = some (t, bytesAV l)) (h3 : off = j) :
    opRes tm H (.load none a) = .ok (.int .u8 (l[j].toNat : Int)) H := by
  subst h3
  have : getK (bytesAV l) off = some (.int .u8 (l[off].toNat : Int)) := by
    rw [getK_eq]
    simp only [bytesAV, List.getElem?_map, List.getElem?_eq_getElem hj, Option.map_some]
  simp only [opRes, h1, h2, loadRes, this]

theorem unAV_bytes (l : List UInt8) : unAV (bytesAV l) = l := by
  induction l with
  | nil => rfl
  | cons c r ih =>
    simp only [bytesAV, unAV, List.map_cons] at *
    rw [ih]
    congr 1
    simp

theorem nhL_bytes (i : Nat) (l : List UInt8) : nhL i (bytesAV l) = true := by
  rw [nhL_iff]
  intro x hx
  obtain ⟨j, hj⟩ := List.mem_iff_getElem?.mp hx
  obtain ⟨u, _, rfl⟩ := bytesAV_at hj
  rfl
end
end Ink

namespace Ink
open Go

theorem brD {p : Prop} {d : Decidable p} {A B : Prop} (ha : p → A) (hb : ¬ p → B) : (match @decide p d with | true => A | false => B) := by
  cases d with
  | isTrue h => exact ha h
  | isFalse h => exact hb h

theorem brB {b : Bool} {A B : Prop} (ha : b = true → A) (hb : b = false → B) : (match (generalizing := false) b with | true => A | false => B) := by
  cases b with
  | true => exact ha rfl
  | false => exact hb rfl

theorem stepOk {r : Res} {v : AV} {H : List Blk} {K1 : AV → List Blk → Prop} {K2 : Prop → AV → List Blk → Prop} {K3 : Prop} (h : r = .ok v H) (k : K1 v H) :
    (match (generalizing := false) r with | .ok v H' => K1 v H' | .okIf p v H' => K2 p v H' | .bad => K3) := by
  subst h; exact k

theorem stepIf {r : Res} {p : Prop} {v : AV} {H : List Blk} {K1 : AV → List Blk → Prop} {K2 : Prop → AV → List Blk → Prop} {K3 : Prop} (h : r = .okIf p v H) (k : K2 p v H) :
    (match (generalizing := false) r with | .ok v H' => K1 v H' | .okIf p v H' => K2 p v H' | .bad => K3) := by
  subst h; exact k

/-- a cell is loaded -/
theorem load_at {tm : List AV} {H : List Blk} {a : AOpd} {i ver off : Nat} {t : TypeId} {cs : List AV} {v : AV} (h1 : a.ev tm = .ptr i ver off) (h2 : liveCells H i ver = some (t, cs)) (h3 : cs[off]? = some v) :
    opRes tm H (.load none a) = .ok v H := by
  simp only [opRes, h1, h2, loadRes, getK_eq, h3]

/-- all cells are loaded -/
theorem load_all {tm : List AV} {H : List Blk} {a : AOpd} {i ver n : Nat} {t : TypeId} {cs : List AV} (h1 : a.ev tm = .ptr i ver 0) (h2 : liveCells H i ver = some (t, cs)) (h3 : cs.length = n) :
    opRes tm H (.load (some n) a) = .ok (.agg cs) H := by
  subst h3
  have e : Nat.ble (0 + cs.length) (lenK cs) = true := by rw [lenK_eq]; simp
  simp only [opRes, h1, h2, loadRes, e]
  rw [takeK_eq]
  simp [dropK]

/-- a cell is stored -/
theorem store_at {tm : List AV} {H : List Blk} {a x : AOpd} {i ver off : Nat} {t : TypeId} {cs : List AV} {v : AV} (h1 : a.ev tm = .ptr i ver off) (h2 : liveCells H i ver = some (t, cs)) (h3 : off < cs.length) (hx : x.ev tm = v) (hv : cellsOf? v = some [v]) :
    opRes tm H (.store 1 a x) = .ok .top (setK H i ⟨ver, true, .cells t (cs.set off v)⟩ id) := by
  have e : (Nat.beq (lenK [v]) 1 && Nat.ble (off + 1) (lenK cs)) = true := by rw [lenK_eq, lenK_eq]; simp; omega
  simp only [opRes, h1, h2, hx, hv, e]
  simp only [appK_eq, takeK_eq, dropK_eq, setK_eq, id]
  have : cs.set off v = cs.take off ++ v :: cs.drop (off + 1) := by rw [List.set_eq_take_append_cons_drop, if_pos h3]
  rw [this]
  rfl

end Ink
