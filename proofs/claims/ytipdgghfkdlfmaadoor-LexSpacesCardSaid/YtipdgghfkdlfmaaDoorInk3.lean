import Derived.Test.YtipdgghfkdlfmaaDoorInk2
set_option linter.all false
namespace Ink
open Go

/-- what is known of strings.Builder in a program -/
structure BldP (P : Program) (T e fcc fstr : Nat) : Prop where
  ecc : ∀ vs w, (callFunc fcc vs).run P w = .ok (.enter fcc vs) w
  estr : ∀ vs w, (callFunc fstr vs).run P w = .ok (.enter fstr vs) w
  used : ∀ (b : Nat) (w : World), w.cell? ⟨b, 0, none⟩ = some (.pointer (some ⟨b, 0, none⟩)) → Calls P fcc #[.pointer (some ⟨b, 0, none⟩)] w fun e w' => e = .returned (.tuple #[]) ∧ w' = w
  fresh : ∀ (b : Nat) (w : World), w.cell? ⟨b, 0, none⟩ = some (.pointer none) → w.shape? b = some (T, 2) → w.frozen? ⟨b, 0, none⟩ = false →
    Calls P fcc #[.pointer (some ⟨b, 0, none⟩)] w fun e w' => e = .returned (.tuple #[]) ∧ w' = w.setCell ⟨b, 0, none⟩ (.pointer (some ⟨b, 0, none⟩))
  nil : ∀ (b : Nat) (w : World), w.cell? ⟨b, 1, none⟩ = some (.slice none 0 0) → Calls P fstr #[.pointer (some ⟨b, 0, none⟩)] w fun e w' => e = .returned (.string ⟨#[]⟩) ∧ w' = w.drew
  room : ∀ (b : Nat) (w : World) (g base cap : Nat), cap ≠ 0 → w.cell? ⟨b, 1, none⟩ = some (.slice (some ⟨g, base, none⟩) 0 cap) → Calls P fstr #[.pointer (some ⟨b, 0, none⟩)] w fun e w' => e = .returned (.string ⟨#[]⟩) ∧ w' = w.drew
  full : ∀ (b : Nat) (w : World) (g base cap : Nat) (l : List UInt8), l ≠ [] → l.length ≤ cap → ∀ (n : Nat), w.shape? g = some (e, n) → base + l.length ≤ n → l.length ≤ 9223372036854775807 →
    (∀ (j : Nat) (x : UInt8), l[j]? = some x → w.cell? ((⟨g, base, none⟩ : Addr).add j) = some (.int .u8 x.toNat)) → w.cell? ⟨b, 1, none⟩ = some (.slice (some ⟨g, base, none⟩) l.length cap) →
    Calls P fstr #[.pointer (some ⟨b, 0, none⟩)] w fun e w' => e = .returned (.string ⟨l.toArray⟩) ∧ w' = w.drew.freeze ⟨g, base, none⟩ l.length

section
variable {E : Env} {T e fcc fstr : Nat}

theorem bytesAV_at {bs : List UInt8} {j : Nat} {x : AV} (h : (bytesAV bs)[j]? = some x) : ∃ u, bs[j]? = some u ∧ x = .int .u8 (u.toNat : Int) := by
  simp only [bytesAV, List.getElem?_map, Option.map_eq_some_iff] at h
  obtain ⟨u, h1, rfl⟩ := h
  exact ⟨u, h1, rfl⟩

/-- the copy check: behind it the builder is seen as it is -/
theorem BldP.check (B : BldP E.P T e fcc fstr) (l : List (Nat × Obj)) (bs : List UInt8) :
    ACalls E fcc [.ptr 1 0 0] [⟨0, true, .frame l⟩, ⟨0, true, .bld T e bs⟩] fun r H' => r = .tup [] ∧ H' = [⟨0, true, .frame l⟩, ⟨0, true, .cells T [.ptr 1 0 0, .own 2 0 0 bs.length 1]⟩, ⟨0, true, .cells e (bytesAV bs)⟩] := by
  unfold ACalls
  intro c vs hH hr hg hl
  have hb0 : c.H[0]? = some ⟨0, true, .frame l⟩ := by rw [hH]; rfl
  have hb1 : c.H[1]? = some ⟨0, true, .bld T e bs⟩ := by rw [hH]; rfl
  have F := hr.blk 0 _ hb0 rfl
  have L1 := hr.blk 1 _ hb1 rfl
  have live0 : c.live 0 := live_of hb0 rfl
  have live1 : c.live 1 := live_of hb1 rfl
  obtain ⟨v0, rfl, hv0⟩ : ∃ v, vs = [v] ∧ VR c (.ptr 1 0 0) v := by
    match vs, hl.len with
    | [v], _ => exact ⟨v, rfl, hl.at_ 0 _ v rfl rfl⟩
  obtain ⟨p, hμ, rfl⟩ := ptr_at hv0 hb1
  rw [hμ] at L1
  obtain ⟨hbase, hsize, q, v, fr, hcell, hfr, hq, hbuf⟩ := L1
  rw [hbase]
  simp only [Nat.zero_add]
  have hcell0 : c.w.cell? ⟨p.b, 0, none⟩ = some q := by rw [cell_heap hcell]; rfl
  -- the world behind the check
  obtain ⟨w1, hcalls, hw1, hoth, hsz, hos, htape, hout⟩ : ∃ w1, (Calls E.P fcc #[.pointer (some ⟨p.b, 0, none⟩)] c.w fun e w' => e = .returned (.tuple #[]) ∧ w' = w1) ∧
      w1.heap[p.b]? = some (.cells #[.pointer (some ⟨p.b, 0, none⟩), v] T fr) ∧ (∀ x, x ≠ p.b → w1.heap[x]? = c.w.heap[x]?) ∧ w1.heap.size = c.w.heap.size ∧ w1.os = c.w.os ∧ w1.tape = c.w.tape ∧ w1.output = c.w.output := by
    rcases hq with rfl | rfl
    · refine ⟨_, B.fresh p.b c.w hcell0 (by simp [World.shape?, hcell]) (by have := hfr 0 (by omega); simp [World.frozen?, hcell]; omega), ?_⟩
      have hs := setCell_eq_setRow c.w p.b 0 #[.pointer none, v] T fr (.pointer (some ⟨p.b, 0, none⟩)) hcell
      rw [hs]
      exact ⟨setRow_heap _ _ _ _ _ _ hcell, fun x hx => setRow_heap_ne _ _ _ _ hx, setRow_size _ _ _, rfl, rfl, rfl⟩
    · exact ⟨_, B.used p.b c.w hcell0, hcell, fun _ _ => rfl, rfl, rfl, rfl, rfl⟩
  -- the buffer
  obtain ⟨m2, hm2, hm2b, hvr2, hbr2⟩ : ∃ m2 : Option Loc, (∀ k, m2 = some k → k.b ∈ c.hid 1) ∧ (m2 = none → v = .slice none 0 0 ∧ bs.length = 0) ∧
      (∀ k, m2 = some k → ∃ a cap, v = .slice (some a) bs.length cap ∧ bs.length ≤ cap ∧ (cap ≠ 0 → a = ⟨k.b, k.base + 0, none⟩) ∧ k.base + 0 + cap * 1 ≤ k.size) ∧
      (match m2 with
        | none => bytesAV bs = []
        | some k => ∃ cs fr, c.w.heap[k.b]? = some (.cells cs e fr) ∧ cs.size = k.size ∧ k.base + (bytesAV bs).length ≤ k.size ∧ (∀ (j : Nat) (u : UInt8), bs[j]? = some u → cs[k.base + j]? = some (Value.int .u8 (u.toNat : Int))) ∧ ∀ o, k.base ≤ o → o < k.size → ¬ (fr.1 ≤ o ∧ o < fr.2)) := by
    rcases hbuf with ⟨h1, h2, h3⟩ | ⟨h, base, cap, h1, h2, h3, cs, fr, g1, g2, g3, g4, g5⟩
    · refine ⟨none, fun k hk => (by cases hk), fun _ => ⟨h2, by rw [h3]; rfl⟩, fun k hk => by (cases hk), ?_⟩
      rw [h3]; rfl
    · refine ⟨some ⟨h, base, cs.size⟩, fun k hk => (by cases hk; simp [h1]), fun hk => (by cases hk), fun k hk => ?_, cs, fr, g1, rfl, (by simp [bytesAV]; omega), g4, fun o hb ho => g5 o hb ho⟩
      cases hk
      exact ⟨_, cap, h2, g3, fun _ => rfl, by show base + 0 + cap * 1 ≤ cs.size; omega⟩
  have hne : ∀ k, m2 = some k → k.b ≠ p.b := fun k hk he => hr.hid 1 p live1 hμ (he ▸ hm2 k hk)
  let d : Cx := { H := [⟨0, true, .frame l⟩, ⟨0, true, .cells T [.ptr 1 0 0, .own 2 0 0 bs.length 1]⟩, ⟨0, true, .cells e (bytesAV bs)⟩], μ := fun i => (if i = 2 then m2 else c.μ i), hid := fun i => if i = 0 then c.hid 0 else [], w := w1 }
  have dlive : ∀ i, d.live i → i = 0 ∨ i = 1 ∨ i = 2 := fun i hi => by
    obtain ⟨b, hb, _⟩ := live_blk hi
    have := getElem?_lt hb
    simp [d] at this
    omega
  have at0 : ∀ x, d.at_ 0 x → c.at_ 0 x := fun x hx => hx
  have at1 : ∀ x, d.at_ 1 x → x = p.b := fun x hx => by
    rcases hx with ⟨k, hk, rfl⟩ | hx
    · have : c.μ 1 = some k := hk
      rw [hμ] at this; cases this; rfl
    · simp [d] at hx
  have at2 : ∀ x, d.at_ 2 x → ∃ k, m2 = some k ∧ x = k.b := fun x hx => by
    rcases hx with ⟨k, hk, rfl⟩ | hx
    · exact ⟨k, hk, rfl⟩
    · simp [d] at hx
  have c1 : c.at_ 1 p.b := .inl ⟨p, hμ, rfl⟩
  have c2 : ∀ k, m2 = some k → c.at_ 1 k.b := fun k hk => .inr (hm2 k hk)
  have dO : ∀ x, d.O x → c.O x := fun x ⟨i, h1, h2⟩ => by
    rcases dlive i h1 with rfl | rfl | rfl
    · exact ⟨0, live0, at0 x h2⟩
    · rw [at1 x h2]; exact ⟨1, live1, c1⟩
    · obtain ⟨k, hk, rfl⟩ := at2 x h2; exact ⟨1, live1, c2 k hk⟩
  have hdH2 : d.H[2]? = some ⟨0, true, .cells e (bytesAV bs)⟩ := rfl
  have hdH1 : d.H[1]? = some ⟨0, true, .cells T [.ptr 1 0 0, .own 2 0 0 bs.length 1]⟩ := rfl
  have θ1 : d.θ 1 = some (0, some p) := by rw [θ_of hdH1]; show some (0, c.μ 1) = _; rw [hμ]
  have θ2 : d.θ 2 = some (0, m2) := by rw [θ_of hdH2]; rfl
  have E1 : Ext c d := {
    n := by rw [hH]; simp [d]
    old := fun i v m v' m' h h' => by
      have hi : i < 2 := by have := θ_lt h; rw [hH] at this; simpa using this
      have : i = 0 ∨ i = 1 := by omega
      rcases this with rfl | rfl
      · have : d.θ 0 = c.θ 0 := by rw [θ_of hb0, θ_of (c := d) (show d.H[0]? = some ⟨0, true, .frame l⟩ from rfl)]; rfl
        rw [this, h] at h'; cases h'; exact ⟨Nat.le_refl _, fun _ => rfl⟩
      · rw [θ1] at h'; rw [θ_of hb1, hμ] at h; cases h; cases h'; exact ⟨Nat.le_refl _, fun _ => rfl⟩
    dead := fun i hi h => by
      rw [hH] at hi
      simp at hi
      have : i = 0 ∨ i = 1 := by omega
      rcases this with rfl | rfl
      · rw [θ_of hb0] at h; cases h
      · rw [θ_of hb1] at h; cases h
    os := hos
    tape := htape
    output := hout
    size := Nat.le_of_eq hsz.symm
    same := fun x hx ho => hoth x (fun hxp => ho (hxp ▸ ⟨1, live1, c1⟩))
    own := fun x h => .inl (dO x h) }
  refine .inl ⟨fun w => B.ecc _ w, hcalls.mono fun en w' ⟨h1, h2⟩ => ⟨_, h1, d, .tup [], h2.symm, ?_, E1, .tup [] #[] rfl (fun j x v hx => by simp at hx), rfl, rfl⟩⟩
  constructor
  · intro i b hb hbl
    rcases dlive i (live_of hb hbl) with rfl | rfl | rfl
    · cases hb
      refine ⟨F.1, F.2.1, fun pr hp => ?_⟩
      have hne : pr.1 ≠ p.b := fun he => by
        have := hr.inj 0 1 p.b live0 live1 (.inr (by rw [F.2.1]; exact List.mem_map.mpr ⟨pr, hp, he⟩)) c1
        cases this
      show w1.heap[pr.1]? = _
      rw [hoth _ hne]; exact F.2.2 pr hp
    · cases hb
      have : d.μ 1 = some p := hμ
      rw [this]
      refine ⟨rfl, by simp [sc], #[.pointer (some ⟨p.b, 0, none⟩), v], fr, hw1, by rw [hsize]; rfl, by rw [hbase, hsize]; simp, fun j x hx => ?_, fun o _ ho h => hfr o (by omega) h⟩
      rw [hbase, Nat.zero_add]
      match j, hx with
      | 0, hx =>
        cases hx
        refine ⟨_, rfl, .ptr 1 0 0 _ ⟨_, rfl⟩ (by simp [d]) (fun v0 m hm => Nat.zero_le _) (fun m hm => ?_)⟩
        rw [θ1] at hm; cases hm
        exact ⟨p, rfl, by simp [hbase]⟩
      | 1, hx =>
        cases hx
        refine ⟨_, rfl, ?_⟩
        cases hm2' : m2 with
        | none =>
          obtain ⟨rfl, h0⟩ := hm2b hm2'
          refine .own 2 0 0 _ 1 _ ⟨_, _, _, rfl⟩ (by simp [d]) (fun v0 m hm => Nat.zero_le _) (fun _ => ⟨rfl, h0, rfl⟩) (fun k hk => ?_)
          rw [θ2, hm2'] at hk; cases hk
        | some k =>
          obtain ⟨a, cap, hv, r⟩ := hvr2 k hm2'
          refine .own 2 0 0 _ 1 _ ⟨_, _, _, hv⟩ (by simp [d]) (fun v0 m hm => Nat.zero_le _) (fun hk => ?_) (fun k' hk => ?_)
          · rw [θ2, hm2'] at hk; cases hk
          · rw [θ2, hm2'] at hk; cases hk
            exact ⟨a, cap, hv, r⟩
    · cases hb
      have : d.μ 2 = m2 := rfl
      rw [this]
      refine ⟨rfl, fun x hx => ?_, ?_⟩
      · obtain ⟨j, hj⟩ := List.mem_iff_getElem?.mp hx
        obtain ⟨u, _, rfl⟩ := bytesAV_at hj
        rfl
      · cases hm2' : m2 with
        | none => rw [hm2'] at hbr2; exact hbr2
        | some k =>
          rw [hm2'] at hbr2
          obtain ⟨cs, fr, g1, g2, g3, g4, g5⟩ := hbr2
          refine ⟨cs, fr, ?_, g2, g3, fun j x hx => ?_, g5⟩
          · show w1.heap[k.b]? = _
            rw [hoth _ (hne k hm2')]; exact g1
          · obtain ⟨u, hu, rfl⟩ := bytesAV_at hx
            exact ⟨_, g4 j u hu, .int _ _ (IK_u8)⟩
  · intro i j x hi hj hix hjx
    have n01 : ∀ y, c.at_ 0 y → c.at_ 1 y → False := fun y h1 h2 => by cases hr.inj 0 1 y live0 live1 h1 h2
    rcases dlive i hi with rfl | rfl | rfl <;> rcases dlive j hj with rfl | rfl | rfl
    · rfl
    · exact (n01 x (at0 x hix) (at1 x hjx ▸ c1)).elim
    · obtain ⟨k, hk, rfl⟩ := at2 x hjx; exact (n01 _ (at0 _ hix) (c2 k hk)).elim
    · exact (n01 x (at0 x hjx) (at1 x hix ▸ c1)).elim
    · rfl
    · obtain ⟨k, hk, rfl⟩ := at2 x hjx; exact (hne k hk (at1 _ hix)).elim
    · obtain ⟨k, hk, rfl⟩ := at2 x hix; exact (n01 _ (at0 _ hjx) (c2 k hk)).elim
    · obtain ⟨k, hk, rfl⟩ := at2 x hix; exact (hne k hk (at1 _ hjx)).elim
    · rfl
  · intro i k hi hk
    rcases dlive i hi with rfl | rfl | rfl
    · have : c.μ 0 = some k := hk
      rw [F.1] at this; cases this
    · simp [d]
    · simp [d]
  · intro i x hi hx
    obtain ⟨j, h1, h2⟩ := dO x ⟨i, hi, hx⟩
    show x < w1.heap.size
    rw [hsz]
    exact hr.lt j x h1 h2

/-- seen as a builder again -/
theorem WkV.fold {l : List (Nat × Obj)} {bs0 bs : List UInt8} {r : AV} {v2 : Nat} (hbs : bs ≠ []) (hr0 : hb 0 r = true) :
    WkV E [⟨0, true, .frame l⟩, ⟨0, true, .bld T e bs0⟩] r [⟨0, true, .frame l⟩, ⟨0, true, .cells T [.ptr 1 0 0, .own 2 v2 0 bs.length 1]⟩, ⟨v2, true, .cells e (bytesAV bs)⟩] r [⟨0, true, .frame l⟩, ⟨0, true, .bld T e bs⟩] := by
  unfold WkV
  intro c0 c v hn he hg hH hr hv
  obtain ⟨hn, hr0'⟩ := hn
  have hc0 : c0.H[1]? = some ⟨0, true, .bld T e bs0⟩ := by rw [hn]; rfl
  have L0 := hr0'.blk 1 _ hc0 rfl
  have hb0 : c.H[0]? = some ⟨0, true, .frame l⟩ := by rw [hH]; rfl
  have hb1 : c.H[1]? = some ⟨0, true, .cells T [.ptr 1 0 0, .own 2 v2 0 bs.length 1]⟩ := by rw [hH]; rfl
  have hb2 : c.H[2]? = some ⟨v2, true, .cells e (bytesAV bs)⟩ := by rw [hH]; rfl
  have live0 : c.live 0 := live_of hb0 rfl
  have live1 : c.live 1 := live_of hb1 rfl
  have live2 : c.live 2 := live_of hb2 rfl
  have F := hr.blk 0 _ hb0 rfl
  have L1 := hr.blk 1 _ hb1 rfl
  have hμeq : c0.μ 1 = c.μ 1 := (he.old 1 0 _ 0 _ (θ_of hc0) (θ_of hb1)).2 rfl
  obtain ⟨p, hμ⟩ : ∃ p, c.μ 1 = some p := by
    cases h : c.μ 1 with
    | none => rw [hμeq, h] at L0; exact L0.elim
    | some p => exact ⟨p, rfl⟩
  rw [hμeq, hμ] at L0
  obtain ⟨hbase, hsize, _⟩ := L0
  obtain ⟨cs, fr, g1, g2, g3, g4, g5, g6⟩ := blk_cells hr hb1 hμ
  obtain ⟨q, hq, hqv⟩ := g5 0 _ rfl
  obtain ⟨u, hu, huv⟩ := g5 1 _ rfl
  rw [hbase] at hq hu
  have hq2 : q = .pointer (some ⟨p.b, 0, none⟩) := by
    obtain ⟨p', h1, h2⟩ := ptr_at hqv hb1
    rw [hμ] at h1; cases h1
    rw [h2, hbase]
  have hlen : bs.length ≠ 0 := by simpa using hbs
  -- the buffer's place
  obtain ⟨k, hk, a, cap, hua, hcap, ha, hroom⟩ : ∃ k, c.μ 2 = some k ∧ ∃ a cap, u = .slice (some a) bs.length cap ∧ bs.length ≤ cap ∧ (cap ≠ 0 → a = ⟨k.b, k.base + 0, none⟩) ∧ k.base + 0 + cap * 1 ≤ k.size := by
    cases huv with
    | own _ _ _ _ _ _ hv hi hle h0 h1 =>
      cases hm : c.μ 2 with
      | none => exact absurd (h0 (by rw [θ_of hb2, hm])).2.1 hlen
      | some k => exact ⟨k, rfl, h1 k (by rw [θ_of hb2, hm])⟩
  have ha := ha (by omega)
  subst ha
  obtain ⟨cs2, fr2, k1, k2, k3, k4, k5, k6⟩ := blk_cells hr hb2 hk
  have c1 : c.at_ 1 p.b := .inl ⟨p, hμ, rfl⟩
  have c2 : c.at_ 2 k.b := .inl ⟨k, hk, rfl⟩
  have hne : k.b ≠ p.b := fun h => by have := hr.inj 1 2 p.b live1 live2 c1 (h ▸ c2); omega
  have hhid1 : c.hid 1 = [] := L1.1
  have hcs : cs = #[q, u] := by
    have h2 : cs.size = 2 := by omega
    obtain ⟨cl⟩ := cs
    match cl, h2 with
    | [x, y], _ => simp at hq hu; rw [hq, hu]
  let d : Cx := { H := [⟨0, true, .frame l⟩, ⟨0, true, .bld T e bs⟩], μ := c.μ, hid := fun i => (if i = 1 then [k.b] else c.hid i), w := c.w }
  have dlive : ∀ i, d.live i → i = 0 ∨ i = 1 := fun i hi => by
    obtain ⟨b, hb, _⟩ := live_blk hi
    have := getElem?_lt hb
    simp [d] at this
    omega
  have at0 : ∀ x, d.at_ 0 x → c.at_ 0 x := fun x hx => hx
  have at1 : ∀ x, d.at_ 1 x → x = p.b ∨ x = k.b := fun x hx => by
    rcases hx with ⟨k', hk', rfl⟩ | hx
    · have : c.μ 1 = some k' := hk'
      rw [hμ] at this; cases this; exact .inl rfl
    · simp [d] at hx; exact .inr hx
  have dO : ∀ x, d.O x → c.O x := fun x ⟨i, h1, h2⟩ => by
    rcases dlive i h1 with rfl | rfl
    · exact ⟨0, live0, at0 x h2⟩
    · rcases at1 x h2 with rfl | rfl
      · exact ⟨1, live1, c1⟩
      · exact ⟨2, live2, c2⟩
  have hd0 : d.H[0]? = some ⟨0, true, .frame l⟩ := rfl
  have hd1 : d.H[1]? = some ⟨0, true, .bld T e bs⟩ := rfl
  refine ⟨d, rfl, rfl, ?_, ?_, hv.move (c := c) (d := d) (n := 0) (Nat.le_refl _) (fun _ _ _ => rfl) (fun x h => .inl (dO x h)) (Nat.zero_le _) (fun i hi => by omega) hr0⟩
  · constructor
    · intro i b hb hbl
      rcases dlive i (live_of hb hbl) with rfl | rfl
      · cases hb; exact F
      · cases hb
        have : d.μ 1 = some p := hμ
        rw [this]
        refine ⟨hbase, hsize, q, u, fr, by rw [← hcs]; exact g1, fun o ho => g6 o (by omega) (by omega), .inr hq2, .inr ⟨k.b, k.base, cap, rfl, hua, by omega, cs2, fr2, k1, ?_, hcap, fun j x hx => ?_, ?_⟩⟩
        · rw [k2]; omega
        · obtain ⟨y, h1, h2⟩ := k5 j (.int .u8 (x.toNat : Int)) (by simp [bytesAV, hx])
          rw [h1]
          cases h2; rfl
        · intro o h1 h2; exact k6 o h1 (by omega)
    · intro i j x hi hj hix hjx
      have n01 : ∀ y, c.at_ 0 y → c.at_ 1 y → False := fun y h1 h2 => by cases hr.inj 0 1 y live0 live1 h1 h2
      have n02 : ∀ y, c.at_ 0 y → c.at_ 2 y → False := fun y h1 h2 => by cases hr.inj 0 2 y live0 live2 h1 h2
      have n : ∀ y, c.at_ 0 y → d.at_ 1 y → False := fun y h1 h2 => by
        rcases at1 y h2 with rfl | rfl
        · exact n01 _ h1 c1
        · exact n02 _ h1 c2
      rcases dlive i hi with rfl | rfl <;> rcases dlive j hj with rfl | rfl
      · rfl
      · exact (n x (at0 x hix) hjx).elim
      · exact (n x (at0 x hjx) hix).elim
      · rfl
    · intro i k' hi hk'
      rcases dlive i hi with rfl | rfl
      · have : c.μ 0 = some k' := hk'
        rw [F.1] at this; cases this
      · have : c.μ 1 = some k' := hk'
        rw [hμ] at this; cases this
        simp [d]; exact fun h => hne h.symm
    · intro i x hi hx
      obtain ⟨j, h1, h2⟩ := dO x ⟨i, hi, hx⟩
      exact hr.lt j x h1 h2
  · exact {
      n := by rw [hn]; simp [d]
      old := fun i v m v' m' h h' => by
        have hi : i < 2 := by have := θ_lt h; rw [hn] at this; simpa using this
        have : i = 0 ∨ i = 1 := by omega
        rcases this with rfl | rfl
        · have : d.θ 0 = c.θ 0 := by rw [θ_of hb0, θ_of hd0]
          rw [this] at h'; exact he.old 0 v m v' m' h h'
        · have : d.θ 1 = c.θ 1 := by rw [θ_of hb1, θ_of hd1]
          rw [this] at h'; exact he.old 1 v m v' m' h h'
      dead := fun i hi h => by
        rw [hn] at hi
        simp at hi
        have : i = 0 ∨ i = 1 := by omega
        rcases this with rfl | rfl
        · have := he.dead 0 (by rw [hn]; simp) h; rw [θ_of hb0] at this; cases this
        · have := he.dead 1 (by rw [hn]; simp) h; rw [θ_of hb1] at this; cases this
      os := he.os
      tape := he.tape
      output := he.output
      size := he.size
      same := he.same
      own := fun x h => he.own x (dO x h) }

theorem freeze_ne (w : World) (a : Addr) (n x : Nat) (h : x ≠ a.block) : (w.freeze a n).heap[x]? = w.heap[x]? := by
  unfold World.freeze
  split
  · rfl
  · simp only [Array.getElem?_modify]
    rw [if_neg (Ne.symm h)]

theorem freeze_size (w : World) (a : Addr) (n : Nat) : (w.freeze a n).heap.size = w.heap.size := by
  unfold World.freeze
  split <;> simp

theorem freeze_rest (w : World) (a : Addr) (n : Nat) : (w.freeze a n).os = w.os ∧ (w.freeze a n).tape = w.tape ∧ (w.freeze a n).output = w.output := by
  unfold World.freeze
  split <;> exact ⟨rfl, rfl, rfl⟩

/-- its text; it is no builder any more -/
theorem BldP.string (B : BldP E.P T e fcc fstr) {bs : List UInt8} (hlen : bs.length ≤ 9223372036854775807) :
    BCalls E fstr [.ptr 1 0 0] [.bld T e bs] fun r ks => r = .str bs ∧ ks = [.cells T []] := by
  unfold BCalls
  intro l
  unfold ACalls
  intro c vs hH hr hg hl
  have hb0 : c.H[0]? = some ⟨0, true, .frame l⟩ := by rw [hH]; rfl
  have hb1 : c.H[1]? = some ⟨0, true, .bld T e bs⟩ := by rw [hH]; rfl
  have F := hr.blk 0 _ hb0 rfl
  have L1 := hr.blk 1 _ hb1 rfl
  have live0 : c.live 0 := live_of hb0 rfl
  have live1 : c.live 1 := live_of hb1 rfl
  obtain ⟨v0, rfl, hv0⟩ : ∃ v, vs = [v] ∧ VR c (.ptr 1 0 0) v := by
    match vs, hl.len with
    | [v], _ => exact ⟨v, rfl, hl.at_ 0 _ v rfl rfl⟩
  obtain ⟨p, hμ, rfl⟩ := ptr_at hv0 hb1
  rw [hμ] at L1
  obtain ⟨hbase, hsize, q, v, fr, hcell, hfr, hq, hbuf⟩ := L1
  rw [hbase]
  simp only [Nat.zero_add]
  have hcell1 : c.w.cell? ⟨p.b, 1, none⟩ = some v := by rw [cell_heap hcell]; rfl
  have c1 : c.at_ 1 p.b := .inl ⟨p, hμ, rfl⟩
  obtain ⟨w1, st, hst, hcalls, hoth, hsz, hos, htape, hout⟩ : ∃ w1, ∃ st : ByteArray, st.data.toList = bs ∧ (Calls E.P fstr #[.pointer (some ⟨p.b, 0, none⟩)] c.w fun e w' => e = .returned (.string st) ∧ w' = w1) ∧
      (∀ x, (x = p.b ∨ ¬ c.at_ 1 x) → w1.heap[x]? = c.w.heap[x]?) ∧ w1.heap.size = c.w.heap.size ∧ w1.os = c.w.os ∧ w1.tape = c.w.tape ∧ w1.output = c.w.output := by
    rcases hbuf with ⟨h1, h2, h3⟩ | ⟨h, base, cap, h1, h2, h3, cs, fr', g1, g2, g3, g4, g5⟩
    · subst h3
      exact ⟨_, _, rfl, B.nil p.b c.w (by rw [hcell1, h2]), fun _ _ => rfl, rfl, rfl, rfl, rfl⟩
    · by_cases hbs : bs = []
      · subst hbs
        exact ⟨_, _, rfl, B.room p.b c.w h base cap (by omega) (by rw [hcell1, h2]; rfl), fun _ _ => rfl, rfl, rfl, rfl, rfl⟩
      · refine ⟨_, _, by simp, B.full p.b c.w h base cap bs hbs g3 cs.size (by simp [World.shape?, g1]) (by omega) hlen (fun j x hx => ?_) (by rw [hcell1, h2]), fun x hx => ?_, freeze_size _ _ _, (freeze_rest _ _ _).1, (freeze_rest _ _ _).2.1, (freeze_rest _ _ _).2.2⟩
        · rw [addr_add, cell_heap g1]; exact g4 j x hx
        · refine freeze_ne c.w.drew _ _ _ (fun he => ?_)
          have hx' : x ∈ c.hid 1 := by rw [he, h1]; simp
          rcases hx with rfl | hx
          · exact hr.hid 1 p live1 hμ hx'
          · exact hx (.inr hx')
  let d : Cx := { H := [⟨0, true, .frame l⟩, ⟨0, true, .cells T []⟩], μ := c.μ, hid := fun i => (if i = 0 then c.hid 0 else []), w := w1 }
  have dlive : ∀ i, d.live i → i = 0 ∨ i = 1 := fun i hi => by
    obtain ⟨b, hb, _⟩ := live_blk hi
    have := getElem?_lt hb
    simp [d] at this
    omega
  have at0 : ∀ x, d.at_ 0 x → c.at_ 0 x := fun x hx => hx
  have at1 : ∀ x, d.at_ 1 x → x = p.b := fun x hx => by
    rcases hx with ⟨k', hk', rfl⟩ | hx
    · have : c.μ 1 = some k' := hk'
      rw [hμ] at this; cases this; rfl
    · simp [d] at hx
  have dO : ∀ x, d.O x → c.O x := fun x ⟨i, h1, h2⟩ => by
    rcases dlive i h1 with rfl | rfl
    · exact ⟨0, live0, at0 x h2⟩
    · rw [at1 x h2]; exact ⟨1, live1, c1⟩
  have hd0 : d.H[0]? = some ⟨0, true, .frame l⟩ := rfl
  have hd1 : d.H[1]? = some ⟨0, true, .cells T []⟩ := rfl
  have n01 : ∀ y, c.at_ 0 y → c.at_ 1 y → False := fun y h1 h2 => by cases hr.inj 0 1 y live0 live1 h1 h2
  have E1 : Ext c d := {
    n := by rw [hH]; simp [d]
    old := fun i v m v' m' h h' => by
      have hi : i < 2 := by have := θ_lt h; rw [hH] at this; simpa using this
      have : i = 0 ∨ i = 1 := by omega
      rcases this with rfl | rfl
      · have : d.θ 0 = c.θ 0 := by rw [θ_of hb0, θ_of hd0]
        rw [this, h] at h'; cases h'; exact ⟨Nat.le_refl _, fun _ => rfl⟩
      · have : d.θ 1 = c.θ 1 := by rw [θ_of hb1, θ_of hd1]
        rw [this, h] at h'; cases h'; exact ⟨Nat.le_refl _, fun _ => rfl⟩
    dead := fun i hi h => by
      rw [hH] at hi
      simp at hi
      have : i = 0 ∨ i = 1 := by omega
      rcases this with rfl | rfl
      · rw [θ_of hb0] at h; cases h
      · rw [θ_of hb1] at h; cases h
    os := hos
    tape := htape
    output := hout
    size := Nat.le_of_eq hsz.symm
    same := fun x hx ho => hoth x (.inr fun h => ho ⟨1, live1, h⟩)
    own := fun x h => .inl (dO x h) }
  refine .inl ⟨fun w => B.estr _ w, hcalls.mono fun en w' ⟨h1, h2⟩ => ⟨_, h1, d, .str bs, h2.symm, ?_, E1, .str bs st hst, rfl, [.cells T []], rfl, rfl, rfl, rfl, rfl⟩⟩
  constructor
  · intro i b hb hbl
    rcases dlive i (live_of hb hbl) with rfl | rfl
    · cases hb
      refine ⟨F.1, F.2.1, fun pr hp => ?_⟩
      show w1.heap[pr.1]? = _
      rw [hoth _ (.inr fun h => n01 pr.1 (.inr (by rw [F.2.1]; exact List.mem_map_of_mem hp)) h)]
      exact F.2.2 pr hp
    · cases hb
      have : d.μ 1 = some p := hμ
      rw [this]
      exact ⟨rfl, by simp, #[q, v], fr, (hoth _ (.inl rfl)).trans hcell, hsize.symm, by simp [hbase], fun j x hx => by (simp at hx), fun o _ ho => hfr o (by omega)⟩
  · intro i j x hi hj hix hjx
    rcases dlive i hi with rfl | rfl <;> rcases dlive j hj with rfl | rfl
    · rfl
    · exact (n01 x (at0 x hix) (at1 x hjx ▸ c1)).elim
    · exact (n01 x (at0 x hjx) (at1 x hix ▸ c1)).elim
    · rfl
  · intro i k hi hk
    rcases dlive i hi with rfl | rfl
    · have : c.μ 0 = some k := hk
      rw [F.1] at this; cases this
    · simp [d]
  · intro i x hi hx
    obtain ⟨j, h1, h2⟩ := dO x ⟨i, hi, hx⟩
    show x < w1.heap.size
    rw [hsz]
    exact hr.lt j x h1 h2

theorem RetG.fold {l : List (Nat × Obj)} {bs0 bs : List UInt8} {r : AV} {v2 : Nat} {H : List Blk} {Q : AV → List BK → Prop} (hbs : bs ≠ []) (hr0 : hb 0 r = true)
    (hH : H = [⟨0, true, .frame l⟩, ⟨0, true, .cells T [.ptr 1 0 0, .own 2 v2 0 bs.length 1]⟩, ⟨v2, true, .cells e (bytesAV bs)⟩]) (hq : Q r [.bld T e bs]) :
    RetG E (frmB l [.bld T e bs0]) r H (RB l [.bld T e bs0] Q) := by
  subst hH
  unfold RetG
  exact ⟨r, _, WkV.fold hbs hr0, hr0, [.bld T e bs], rfl, rfl, rfl, hq⟩

theorem bytesAV_append (a b : List UInt8) : bytesAV (a ++ b) = bytesAV a ++ bytesAV b := by simp [bytesAV]
theorem bytesAV_length (a : List UInt8) : (bytesAV a).length = a.length := by simp [bytesAV]
theorem bytesAV_take (a : List UInt8) : List.take a.length (bytesAV a) = bytesAV a := List.take_of_length_le (by simp [bytesAV])

/-- nothing is written to an empty builder -/
theorem BldP.empty (B : BldP E.P T e fcc fstr) {f : Nat} (hent : ∀ vs w, (callFunc f vs).run E.P w = .ok (.enter f vs) w)
    (hws : ∀ (b : Nat) (w w1 : World) (v : Value), (Calls E.P fcc #[.pointer (some ⟨b, 0, none⟩)] w fun e w' => e = .returned (.tuple #[]) ∧ w' = w1) → w1.cell? ⟨b, 1, none⟩ = some v → (∃ a cap, v = .slice a 0 cap) → w1.frozen? ⟨b, 1, none⟩ = false →
      Calls E.P f #[.pointer (some ⟨b, 0, none⟩), .string ⟨#[]⟩] w fun e w' => e = .returned (.tuple #[.int .i64 0, .nilIface]) ∧ w' = w1.setCell ⟨b, 1, none⟩ v) :
    BCalls E f [.ptr 1 0 0, .str []] [.bld T e []] fun r ks => r = .tup [.int .i64 0, .lit .nilIface] ∧ ks = [.bld T e []] := by
  unfold BCalls
  intro l
  unfold ACalls
  intro c vs hH hr hg hl
  have hb0 : c.H[0]? = some ⟨0, true, .frame l⟩ := by rw [hH]; rfl
  have hb1 : c.H[1]? = some ⟨0, true, .bld T e []⟩ := by rw [hH]; rfl
  have F := hr.blk 0 _ hb0 rfl
  have L1 := hr.blk 1 _ hb1 rfl
  have live0 : c.live 0 := live_of hb0 rfl
  have live1 : c.live 1 := live_of hb1 rfl
  obtain ⟨v0, v1, rfl, hv0, hv1⟩ : ∃ v u, vs = [v, u] ∧ VR c (.ptr 1 0 0) v ∧ VR c (.str []) u := by
    match vs, hl.len with
    | [v, u], _ => exact ⟨v, u, rfl, hl.at_ 0 _ v rfl rfl, hl.at_ 1 _ u rfl rfl⟩
  have hst : v1 = .string ⟨#[]⟩ := by
    cases hv1 with
    | str _ st h =>
      obtain ⟨⟨d⟩⟩ := st
      simp at h; subst h; rfl
  subst hst
  obtain ⟨p, hμ, rfl⟩ := ptr_at hv0 hb1
  rw [hμ] at L1
  obtain ⟨hbase, hsize, q, v, fr, hcell, hfr, hq, hbuf⟩ := L1
  rw [hbase]
  simp only [Nat.zero_add]
  have hcell0 : c.w.cell? ⟨p.b, 0, none⟩ = some q := by rw [cell_heap hcell]; rfl
  obtain ⟨w1, hcalls, hw1, hoth, hsz, hos, htape, hout⟩ : ∃ w1, (Calls E.P fcc #[.pointer (some ⟨p.b, 0, none⟩)] c.w fun e w' => e = .returned (.tuple #[]) ∧ w' = w1) ∧
      w1.heap[p.b]? = some (.cells #[.pointer (some ⟨p.b, 0, none⟩), v] T fr) ∧ (∀ x, x ≠ p.b → w1.heap[x]? = c.w.heap[x]?) ∧ w1.heap.size = c.w.heap.size ∧ w1.os = c.w.os ∧ w1.tape = c.w.tape ∧ w1.output = c.w.output := by
    rcases hq with rfl | rfl
    · refine ⟨_, B.fresh p.b c.w hcell0 (by simp [World.shape?, hcell]) (by have := hfr 0 (by omega); simp [World.frozen?, hcell]; omega), ?_⟩
      have hs := setCell_eq_setRow c.w p.b 0 #[.pointer none, v] T fr (.pointer (some ⟨p.b, 0, none⟩)) hcell
      rw [hs]
      exact ⟨setRow_heap _ _ _ _ _ _ hcell, fun x hx => setRow_heap_ne _ _ _ _ hx, setRow_size _ _ _, rfl, rfl, rfl⟩
    · exact ⟨_, B.used p.b c.w hcell0, hcell, fun _ _ => rfl, rfl, rfl, rfl, rfl⟩
  have hv : ∃ a cap, v = .slice a 0 cap := by
    rcases hbuf with ⟨_, h2, _⟩ | ⟨h, base, cap, _, h2, _⟩
    · exact ⟨_, _, h2⟩
    · exact ⟨_, _, h2⟩
  have hc1 : w1.cell? ⟨p.b, 1, none⟩ = some v := by rw [cell_heap hw1]; rfl
  have hcalls2 := hws p.b c.w w1 v hcalls hc1 hv (by have := hfr 1 (by omega); simp [World.frozen?, hw1]; omega)
  have hw2 : w1.setCell ⟨p.b, 1, none⟩ v = w1 := by
    rw [setCell_eq_setRow w1 p.b 1 _ T fr v hw1]
    exact setRow_self w1 p.b _ T fr hw1
  rw [hw2] at hcalls2
  have c1 : c.at_ 1 p.b := .inl ⟨p, hμ, rfl⟩
  let d : Cx := { c with w := w1 }
  have E1 : Ext c d := {
    n := Nat.le_refl _
    old := fun i v m v' m' h h' => by
      have : d.θ i = c.θ i := rfl
      rw [this, h] at h'; cases h'; exact ⟨Nat.le_refl _, fun _ => rfl⟩
    dead := fun _ _ h => h
    os := hos
    tape := htape
    output := hout
    size := Nat.le_of_eq hsz.symm
    same := fun x hx ho => hoth x (fun hxp => ho (hxp ▸ ⟨1, live1, c1⟩))
    own := fun x h => .inl h }
  have dlive : ∀ i, c.live i → i = 0 ∨ i = 1 := fun i hi => by
    obtain ⟨b, hb, _⟩ := live_blk hi
    have := getElem?_lt hb
    rw [hH] at this
    simp at this
    omega
  refine .inl ⟨fun w => hent _ w, hcalls2.mono fun en w' ⟨h1, h2⟩ => ⟨_, h1, d, .tup [.int .i64 0, .lit .nilIface], h2.symm, ?_, E1, ?_, rfl, [.bld T e []], hH, rfl, rfl, rfl, rfl⟩⟩
  · constructor
    · intro i b hb hbl
      rcases dlive i (live_of (c := c) hb hbl) with rfl | rfl
      · have : b = ⟨0, true, .frame l⟩ := by
          have hb' : c.H[0]? = some b := hb
          rw [hb0] at hb'; exact (Option.some.inj hb').symm
        subst this
        refine ⟨F.1, F.2.1, fun pr hp => ?_⟩
        have hne : pr.1 ≠ p.b := fun he => by
          have := hr.inj 0 1 p.b live0 live1 (.inr (by rw [F.2.1]; exact List.mem_map.mpr ⟨pr, hp, he⟩)) c1
          cases this
        show w1.heap[pr.1]? = _
        rw [hoth _ hne]; exact F.2.2 pr hp
      · have : b = ⟨0, true, .bld T e []⟩ := by
          have hb' : c.H[1]? = some b := hb
          rw [hb1] at hb'; exact (Option.some.inj hb').symm
        subst this
        show BR d (c.μ 1) (c.hid 1) _
        rw [hμ]
        refine ⟨hbase, hsize, _, v, fr, hw1, hfr, .inr rfl, ?_⟩
        rcases hbuf with h | ⟨h, base, cap, h1, h2, h3, h4⟩
        · exact .inl h
        · refine .inr ⟨h, base, cap, h1, h2, h3, bytesAt_frame h4 (hoth h (fun he => hr.hid 1 p live1 hμ (by rw [h1, he]; simp)))⟩
    · exact hr.inj
    · exact hr.hid
    · intro i x h1 h2
      show x < w1.heap.size
      rw [hsz]; exact hr.lt i x h1 h2
  · refine .tup _ _ rfl (fun j x u hx hu => ?_)
    match j, hx, hu with
    | 0, hx, hu => cases hx; cases hu; exact .int _ _ (by constructor <;> decide)
    | 1, hx, hu => cases hx; cases hu; exact .lit _
end
end Ink
