import Derived.Test.YtipdgghfkdlfmaaDoorInk3
set_option linter.all false
namespace Ink
open Go
section
variable {E : Env} {n0 : List Blk}

/-- a nil slice, seen as one of the function's own -/
theorem Wk.ghost {tm : List AV} {H : List Blk} (j sz : Nat) (typ : TypeId) (hj : getK tm j = some (.lit (.slice none 0 0))) :
    Wk E n0 ⟨tm, H⟩ ⟨setK tm j (.own (lenK H) 0 0 0 sz) id, appK H [⟨0, true, .cells typ []⟩] id⟩ := by
  rw [getK_eq] at hj
  rw [setK_eq, appK_eq, lenK_eq]
  unfold Wk
  intro c0 c a hn hs
  have A := push_ok hs.hr (.cells typ []) none c.w rfl rfl rfl (Nat.le_refl _) (fun _ _ => rfl) (fun l hl => by cases hl) (fun _ => ⟨rfl, by simp, rfl⟩)
  have hH : c.H = H := hs.H
  refine ⟨c.push (.cells typ []) none c.w, rfl, ?_, A.1, ?_, hs.ext.trans A.2, hs.g.ext A.2, hs.defers⟩
  · show c.H ++ [newBlk _] = _
    rw [hH]; rfl
  · refine ⟨by simpa using hs.tr.len, fun t x v hx hv => ?_⟩
    simp only [id, List.getElem?_set] at hx
    split at hx
    · rename_i he
      subst he
      split at hx
      · cases hx
        have := hs.tr.at_ j _ v hj hv
        have hv : v = .slice none 0 0 := by cases this; rfl
        subst hv
        have hθ := push_θn c (.cells typ []) none c.w
        rw [hH] at hθ
        refine .own _ _ _ _ _ _ ⟨_, _, _, rfl⟩ (by simp [Cx.push, hH]) (fun v0 m hm => Nat.zero_le _) (fun _ => ⟨rfl, rfl, rfl⟩) (fun l hl => ?_)
        rw [hθ] at hl; cases hl
      · cases hx
    · exact (hs.tr.at_ t x v hx hv).ext A.2
end

mutual
/-- no handle to block i -/
def nh (i : Nat) : AV → Bool
  | .ptr j _ _ => !Nat.beq j i
  | .own j _ _ _ _ => !Nat.beq j i
  | .map j _ => !Nat.beq j i
  | .imm _ l => nhLL i l
  | .pimm l => nhL i l
  | .fn _ a b => nhL i a && nhL i b
  | .iface _ v => nh i v
  | .agg l => nhL i l
  | .tup l => nhL i l
  | _ => true
def nhL (i : Nat) : List AV → Bool
  | [] => true
  | x :: r => nh i x && nhL i r
def nhLL (i : Nat) : List (List AV) → Bool
  | [] => true
  | x :: r => nhL i x && nhLL i r
end

theorem nhL_iff {n : Nat} : ∀ {l : List AV}, nhL n l = true ↔ ∀ x ∈ l, nh n x = true
  | [] => by simp [nhL]
  | x :: r => by simp [nhL, nhL_iff (l := r)]

theorem nhLL_iff {n : Nat} : ∀ {l : List (List AV)}, nhLL n l = true ↔ ∀ x ∈ l, ∀ y ∈ x, nh n y = true
  | [] => by simp [nhLL]
  | x :: r => by simp [nhLL, nhLL_iff (l := r), nhL_iff]

def nhKV (n : Nat) : List (AV × AV) → Bool
  | [] => true
  | (a, b) :: r => nh n a && nh n b && nhKV n r

theorem nhKV_iff {n : Nat} : ∀ {l : List (AV × AV)}, nhKV n l = true ↔ ∀ x ∈ l, nh n x.1 = true ∧ nh n x.2 = true
  | [] => by simp [nhKV]
  | (a, b) :: r => by simp [nhKV, nhKV_iff (l := r), and_assoc]

def nhB (n : Nat) (b : Blk) : Bool :=
  match b.k with
  | .cells _ c => nhL n c
  | .map kv => nhKV n kv
  | _ => true

def nhH (n : Nat) : List Blk → Bool
  | [] => true
  | b :: r => nhB n b && nhH n r

theorem nhH_iff {n : Nat} : ∀ {l : List Blk}, nhH n l = true ↔ ∀ x ∈ l, nhB n x = true
  | [] => by simp [nhH]
  | b :: r => by simp [nhH, nhH_iff (l := r)]

/-- where one block's version alone changes -/
theorem VR.other {c d : Cx} {i : Nat} (hw : d.w = c.w) (hO : ∀ x, d.O x → c.O x) (hn : c.H.length ≤ d.H.length) (hθ : ∀ j, j ≠ i → d.θ j = c.θ j) {a : AV} {v : Value} (h : VR c a v) : nh i a = true → VR d a v := by
  induction h with
  | top v => intro _; exact .top v
  | int k n h => intro _; exact .int k n h
  | bool b => intro _; exact .bool b
  | str l s h => intro _; exact .str l s h
  | lit v => intro _; exact .lit v
  | cell1 v h => intro _; exact .cell1 v h
  | ptr j ver off v hv hi hle h =>
    intro hp
    have hj : j ≠ i := by intro e; subst e; simp [nh] at hp
    refine .ptr j ver off v hv (by omega) ?_ ?_ <;> rw [hθ j hj]
    · exact hle
    · exact h
  | own j ver off len sz v hv hi hle h0 h =>
    intro hp
    have hj : j ≠ i := by intro e; subst e; simp [nh] at hp
    refine .own j ver off len sz v hv (by omega) ?_ ?_ ?_ <;> rw [hθ j hj]
    · exact hle
    · exact h0
    · exact h
  | map j ver v hv hi hle h0 h =>
    intro hp
    have hj : j ≠ i := by intro e; subst e; simp [nh] at hp
    refine .map j ver v hv (by omega) ?_ ?_ ?_ <;> rw [hθ j hj]
    · exact hle
    · exact h0
    · exact h
  | immE sz a cap => intro _; exact .immE sz a cap
  | imm sz l a cap f hcap hsz hsc hb' hw' hs hcell hrel ih =>
    intro hp
    have hp' := nhLL_iff.mp (by simpa [nh] using hp : nhLL i l = true)
    refine .imm sz l a cap f hcap hsz hsc (fun ho => hb' (hO _ ho)) (by rw [hw]; exact hw') hs (fun j hj => by rw [hw]; exact hcell j hj) (fun j x hx => ih j x hx ?_)
    obtain ⟨y, hy, hxy⟩ := List.mem_flatten.mp (List.mem_of_getElem? hx)
    exact hp' y hy x hxy
  | pimm l a f hsc hb' hw' hs hcell hrel ih =>
    intro hp
    have hp' := nhL_iff.mp (by simpa [nh] using hp : nhL i l = true)
    exact .pimm l a f hsc (fun ho => hb' (hO _ ho)) (by rw [hw]; exact hw') hs (fun j hj => by rw [hw]; exact hcell j hj) (fun j x hx => ih j x hx (hp' x (List.mem_of_getElem? hx)))
  | fn f first cap vf vc hlf hlc hf hc ihf ihc =>
    intro hp
    simp only [nh, Bool.and_eq_true, nhL_iff] at hp
    exact .fn f first cap vf vc hlf hlc (fun j x v hx hv => ihf j x v hx hv (hp.1 x (List.mem_of_getElem? hx))) (fun j x v hx hv => ihc j x v hx hv (hp.2 x (List.mem_of_getElem? hx)))
  | iface t a v h ih => intro hp; exact .iface t a v (ih (by simpa [nh] using hp))
  | agg l vs hsc hl h ih =>
    intro hp
    simp only [nh, nhL_iff] at hp
    exact .agg l vs hsc hl (fun j x v hx hv => ih j x v hx hv (hp x (List.mem_of_getElem? hx)))
  | tup l vs hl h ih =>
    intro hp
    simp only [nh, nhL_iff] at hp
    exact .tup l vs hl (fun j x v hx hv => ih j x v hx hv (hp x (List.mem_of_getElem? hx)))

/-- a value, its block's version set back -/
def Rv (i ver : Nat) (x y : AV) : Prop := (x = y ∧ nh i y = true) ∨ ∃ off len sz, x = .own i ver off len sz ∧ y = .own i 0 off len sz

def HasV (i ver : Nat) (tm : List AV) : List (Nat × AV) → Prop
  | [] => True
  | (j, v) :: r => (∃ x, getK tm j = some x ∧ Rv i ver x v) ∧ HasV i ver tm r

theorem hasV_mem {i ver : Nat} {tm : List AV} : ∀ {l : List (Nat × AV)}, HasV i ver tm l → ∀ p ∈ l, ∃ x, tm[p.1]? = some x ∧ Rv i ver x p.2
  | [], _, p, h => by simp at h
  | (j, v) :: r, h, p, hp => by
    obtain ⟨⟨x, h1, h2⟩, h3⟩ := h
    rcases List.mem_cons.mp hp with rfl | hp
    · rw [getK_eq] at h1; exact ⟨x, h1, h2⟩
    · exact hasV_mem h3 p hp

section
variable {E : Env} {n0 : List Blk}

/-- the version of a block of the function's own is set back -/
theorem Wk.ver {tm : List AV} {H : List Blk} {l : List (Nat × AV)} {n : Nat} (i ver : Nat) {k : BK} (hi : Nat.ble (lenK n0) i = true) (hH : getK H i = some ⟨ver, true, k⟩) (hn : lenK tm = n) (hl : HasV i ver tm l) {H' : List Blk} (hH' : setK H i ⟨0, true, k⟩ id = H') (hnh : nhH i H' = true) :
    Wk E n0 ⟨tm, H⟩ ⟨Ink.slots n l, H'⟩ := by
  rw [getK_eq] at hH
  rw [setK_eq] at hH'
  rw [lenK_eq] at hi hn
  have hi := Nat.le_of_ble_eq_true hi
  unfold Wk
  intro c0 c a hn0 hs
  have hcH : c.H = H := hs.H
  have hci : c.H[i]? = some ⟨ver, true, k⟩ := by rw [hcH]; exact hH
  have hlt : i < c.H.length := getElem?_lt hci
  let d : Cx := { c with H := c.H.set i ⟨0, true, k⟩ }
  have hdi : d.H[i]? = some ⟨0, true, k⟩ := by simp [d, hlt]
  have hdo : ∀ j, j ≠ i → d.H[j]? = c.H[j]? := fun j hj => by simp only [d, List.getElem?_set_ne (Ne.symm hj)]
  have hθ : ∀ j, j ≠ i → d.θ j = c.θ j := fun j hj => by simp only [Cx.θ, hdo j hj]; rfl
  have hlive : ∀ j, d.live j ↔ c.live j := fun j => by
    by_cases hj : j = i
    · subst hj; exact ⟨fun _ => live_of hci rfl, fun _ => live_of hdi rfl⟩
    · simp only [Cx.live, hθ j hj]
  have hO : ∀ x, d.O x → c.O x := fun x ⟨j, h1, h2⟩ => ⟨j, (hlive j).mp h1, h2⟩
  have mv : ∀ {a : AV} {v : Value}, VR c a v → nh i a = true → VR d a v := fun h => VR.other (c := c) (d := d) rfl hO (by simp [d]) hθ h
  have hnhb := nhH_iff.mp hnh
  refine ⟨d, rfl, ?_, ?_, ?_, ?_, ⟨hs.g.le, fun x hx => ⟨(hs.g.at_ x hx).1, fun ho => (hs.g.at_ x hx).2 (hO x ho)⟩⟩, hs.defers⟩
  · show c.H.set i _ = H'
    rw [hcH]; exact hH'
  · constructor
    · intro j b hb hbl
      obtain ⟨b0, hb0, hk0⟩ : ∃ b0, c.H[j]? = some b0 ∧ b0.live = true ∧ b0.k = b.k := by
        by_cases hj : j = i
        · subst hj; rw [hdi] at hb; cases hb; exact ⟨_, hci, rfl, rfl⟩
        · rw [hdo j hj] at hb; exact ⟨b, hb, hbl, rfl⟩
      have B := hs.hr.blk j b0 hb0 hk0.1
      have hdH : d.H = H' := by show c.H.set i _ = H'; rw [hcH]; exact hH'
      have hbm := hnhb b (hdH ▸ List.mem_of_getElem? hb)
      rw [hk0.2] at B
      show BR d (c.μ j) (c.hid j) b.k
      cases hk : b.k with
      | cells typ l =>
        rw [hk] at B
        obtain ⟨h1, h2, h3⟩ := B
        simp only [nhB, hk] at hbm
        have hbm := nhL_iff.mp hbm
        refine ⟨h1, h2, ?_⟩
        cases hm : c.μ j with
        | none => rw [hm] at h3; exact h3
        | some p =>
          rw [hm] at h3
          obtain ⟨cs, fr, g1, g2, g3, g4, g5⟩ := h3
          exact ⟨cs, fr, g1, g2, g3, fun j x hx => let ⟨v, a, b⟩ := g4 j x hx; ⟨v, a, mv b (hbm x (List.mem_of_getElem? hx))⟩, g5⟩
      | bld T e bs => rw [hk] at B; exact B
      | map kv =>
        rw [hk] at B
        obtain ⟨h1, h2, h3⟩ := B
        simp only [nhB, hk] at hbm
        have hbm := nhKV_iff.mp hbm
        refine ⟨h1, h2, ?_⟩
        cases hm : c.μ j with
        | none => rw [hm] at h3; exact h3
        | some p =>
          rw [hm] at h3
          obtain ⟨es, clk, g1, g2, g3, g4⟩ := h3
          exact ⟨es, clk, g1, g2, fun j x en hx hen => ⟨mv (g3 j x en hx hen).1 (hbm x (List.mem_of_getElem? hx)).1, mv (g3 j x en hx hen).2 (hbm x (List.mem_of_getElem? hx)).2⟩, g4⟩
      | frame l => rw [hk] at B; exact B
    · intro j j' x h1 h2 h3 h4
      exact hs.hr.inj j j' x ((hlive j).mp h1) ((hlive j').mp h2) h3 h4
    · intro j l h1 h2
      exact hs.hr.hid j l ((hlive j).mp h1) h2
    · intro j x h1 h2
      exact hs.hr.lt j x ((hlive j).mp h1) h2
  · obtain ⟨h1, h2⟩ := slots_go l n 0
    refine ⟨by show (slots.go n l 0).length = _; rw [h1, ← hn]; exact hs.tr.len, fun t x v hx hv => ?_⟩
    have ht : t < n := by
      rw [← h1]
      rcases Nat.lt_or_ge t (slots.go n l 0).length with h' | h'
      · exact h'
      · rw [show (Ink.slots n l) = slots.go n l 0 from rfl, List.getElem?_eq_none h'] at hx; cases hx
    rw [show (Ink.slots n l) = slots.go n l 0 from rfl, h2 t ht, Nat.zero_add] at hx
    cases hx
    rcases slots_at l t with h3 | ⟨p, hp, h3, h4⟩
    · rw [h3]; exact .top v
    · rw [h4]
      obtain ⟨x, hx, hr⟩ := hasV_mem hl p hp
      rw [h3] at hx
      have hvr := hs.tr.at_ t x v hx hv
      rcases hr with ⟨rfl, hnh'⟩ | ⟨off, len, sz, rfl, hy⟩
      · exact mv hvr hnh'
      · rw [hy]
        have θi : c.θ i = some (ver, c.μ i) := θ_of hci
        have θd : d.θ i = some (0, c.μ i) := θ_of hdi
        cases hvr with
        | own _ _ _ _ _ _ g1 g2 g3 g4 g5 =>
          refine .own i 0 off len sz v g1 (by simp [d, hlt]) (fun _ _ _ => Nat.zero_le _) (fun h => ?_) (fun k' h => ?_)
          · rw [θd] at h
            exact g4 (by rw [θi]; cases hm : c.μ i with
              | none => rfl
              | some q => rw [hm] at h; cases h)
          · rw [θd] at h
            exact g5 k' (by rw [θi]; cases hm : c.μ i with
              | none => rw [hm] at h; cases h
              | some q => rw [hm] at h; cases h; rfl)
  · have e := hs.ext
    have hlen : c0.H.length = n0.length := by rw [hn0.1]
    exact {
      n := by have := e.n; simp [d]; exact this
      old := fun j v m v' m' h h' => by
        have hj : j ≠ i := by have := θ_lt h; omega
        rw [hθ j hj] at h'; exact e.old j v m v' m' h h'
      dead := fun j hj h => by rw [hθ j (by omega)]; exact e.dead j hj h
      os := e.os
      tape := e.tape
      output := e.output
      size := e.size
      same := e.same
      own := fun x h => e.own x (hO x h) }

/-- a loop, whose start is known otherwise first -/
theorem LoopG.w {body : (Ex → St → Prop) → St → Prop} {Q : Ex → St → Prop} {s : St} {α : Type} (Inv : α → Prop) (n : Nat) (l : α → List (Nat × AV)) (H : α → List Blk) (m : α → Nat) (x0 : α) (hi : Inv x0)
    (hw : Wk E n0 s ⟨Ink.slots n (l x0), H x0⟩)
    (h : ∀ x, Inv x → slotsK n (l x) 0 fun tm => body (fun e s' => match e with
      | .normal => ∃ x', (Inv x' ∧ m x' < m x) ∧ Wk E n0 s' ⟨Ink.slots n (l x'), H x'⟩
      | e => Q e s') ⟨tm, H x⟩) : LoopG E n0 body Q s := by
  unfold LoopG
  refine ⟨{x // Inv x}, fun x => ⟨Ink.slots n (l x.1), H x.1⟩, fun x => m x.1, ⟨x0, hi⟩, hw, fun x => ?_⟩
  have := h x.1 x.2
  rw [slotsK_eq] at this
  have hq : (fun (e : Ex) (s' : St) => match e with
      | .normal => ∃ x' : {x // Inv x}, Wk E n0 s' ⟨Ink.slots n (l x'.1), H x'.1⟩ ∧ m x'.1 < m x.1
      | e => Q e s') = (fun e s' => match e with
      | .normal => ∃ x', (Inv x' ∧ m x' < m x.1) ∧ Wk E n0 s' ⟨Ink.slots n (l x'), H x'⟩
      | e => Q e s') := by
    funext e s'
    cases e with
    | normal => exact propext ⟨fun ⟨x', h1, h2⟩ => ⟨x'.1, ⟨x'.2, h2⟩, h1⟩, fun ⟨x', ⟨h1, h2⟩, h3⟩ => ⟨⟨x', h1⟩, h3, h2⟩⟩
    | exit i => rfl
    | ret => rfl
  exact (congrArg (fun q => body q ⟨Ink.slots n (l x.1), H x.1⟩) hq).mpr this

/-- a byte is loaded -/
theorem load_u8 {tm : List AV} {H : List Blk} {a : AOpd} {i ver off : Nat} {t : TypeId} {l : List UInt8} (j : Nat) (hj : j < l.length) (h1 : a.ev tm = .ptr i ver off) (h2 : liveCells H i ver = some (t, bytesAV l)) (h3 : off = j) :
    opRes tm H (.load none a) = .ok (.int .u8 (l[j].toNat : Int)) H := by
  subst h3
  have : getK (bytesAV l) off = some (.int .u8 (l[off].toNat : Int)) := by
    rw [getK_eq]
    simp only [bytesAV, List.getElem?_map, List.getElem?_eq_getElem hj, Option.map_some]
  simp only [opRes, h1, h2, loadRes, this]

theorem unAV_bytes (l : List UInt8) : unAV (bytesAV l) = l := by
  induction l with
  | nil => rfl
  | cons c r ih =>
    simp only [bytesAV, unAV, List.map_cons] at *
    rw [ih]
    congr 1
    simp

theorem nhL_bytes (i : Nat) (l : List UInt8) : nhL i (bytesAV l) = true := by
  rw [nhL_iff]
  intro x hx
  obtain ⟨j, hj⟩ := List.mem_iff_getElem?.mp hx
  obtain ⟨u, _, rfl⟩ := bytesAV_at hj
  rfl
end
end Ink
