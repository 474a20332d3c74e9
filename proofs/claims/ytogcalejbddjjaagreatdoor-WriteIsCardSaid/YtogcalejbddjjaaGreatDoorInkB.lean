import Derived.Test.YtogcalejbddjjaaGreatDoorInkA
set_option linter.all false
namespace Ink
open Go

section
variable {P : Program} {o : Oper} {a : Act} {c : Cx} {tm : List AV}

theorem getElem?_lt {α : Type} {l : List α} {j : Nat} {x : α} (h : l[j]? = some x) : j < l.length := by
  rcases Nat.lt_or_ge j l.length with h' | h'
  · exact h'
  · rw [List.getElem?_eq_none h'] at h; cases h

/-- values one by one -/
structure CL (c : Cx) (l : List AV) (vs : List Value) : Prop where
  len : l.length = vs.length
  sc : ∀ x ∈ l, sc x = true
  at_ : ∀ (j : Nat) (x : AV) (u : Value), l[j]? = some x → vs[j]? = some u → VR c x u

theorem CL.one {l : List AV} {vs : List Value} (h : CL c l vs) : ∀ v ∈ vs, v.oneCell' = true := by
  intro v hv
  obtain ⟨j, hj⟩ := List.getElem?_of_mem hv
  have hl : j < l.length := by rw [h.len]; exact getElem?_lt hj
  exact (h.at_ j l[j] v (List.getElem?_eq_getElem hl) hj).one (h.sc _ (List.getElem_mem hl))

/-- the cells that stand from an address on -/
theorem cells_from {l : List AV} {b off : Nat} (hsc : ∀ x ∈ l, sc x = true) (h : ∀ (j : Nat) (x : AV), l[j]? = some x → ∃ v, c.w.cell? ⟨b, off + j, none⟩ = some v ∧ VR c x v) :
    ∃ vs, CL c l vs ∧ ∀ (w : World), w.heap = c.w.heap → (loadCells ⟨b, off, none⟩ l.length).run P w = .ok vs.toArray w := by
  let vs := (List.range l.length).map fun j => (c.w.cell? ⟨b, off + j, none⟩).getD undef
  have hvl : vs.length = l.length := by simp [vs]
  have hvj : ∀ j (hj : j < l.length), ∃ v, vs[j]? = some v ∧ c.w.cell? ⟨b, off + j, none⟩ = some v ∧ VR c l[j] v := by
    intro j hj
    obtain ⟨v, h1, h2⟩ := h j l[j] (List.getElem?_eq_getElem hj)
    exact ⟨v, by simp [vs, hj, h1], h1, h2⟩
  refine ⟨vs, ⟨hvl.symm, hsc, fun j x u hx hu => ?_⟩, fun w hw => ?_⟩
  · have hj := getElem?_lt hx
    obtain ⟨v, h1, _, h3⟩ := hvj j hj
    rw [hu] at h1; cases h1
    rw [List.getElem?_eq_getElem hj] at hx; cases hx
    exact h3
  · have := run_loadCells_list (P := P) w ⟨b, off, none⟩ vs (fun j v hv => by
      have hj : j < l.length := by rw [← hvl]; exact getElem?_lt hv
      obtain ⟨v', h1, h2, _⟩ := hvj j hj
      rw [hv] at h1; cases h1
      rw [addr_add, cell?_of_heap (w := c.w) (by rw [hw])]
      exact h2)
    rw [hvl] at this
    exact this

theorem appended_ok (hr : HR c) {sz n : Nat} {vx : AV} {cx : Value} {cnd : Prop} {new : List AV} (hx : VR c vx cx) (h : appended c.H sz vx = some (cnd, new, n)) (hc : cnd) :
    ∃ vs, CL c new vs ∧ new.length = n * sz ∧ (∀ w : World, (Builtin.lenOf cx).run P w = .ok n w) ∧ ∀ w : World, w.heap = c.w.heap → (Builtin.firstCells sz n cx).run P w = .ok vs.toArray w := by
  unfold appended at h
  split at h
  · rename_i l
    split at h
    · rename_i hs
      have := Nat.eq_of_beq_eq_true hs
      subst this
      cases h
      cases hx with
      | str _ s hsl =>
      have hz : s.size = l.length := by rw [← hsl]; rfl
      refine ⟨l.map fun u => .int .u8 (u.toNat : Int), ⟨by simp [bytesAV], bytesAV_sc l, fun j x u hx hu => ?_⟩, by simp [bytesAV], fun w => by simp [Builtin.lenOf, hz], fun w _ => ?_⟩
      · rw [bytesAV_get] at hx
        rw [List.getElem?_map] at hu
        cases hj : l[j]? with
        | none => simp [hj] at hx
        | some b =>
          simp [hj] at hx hu
          subst hx hu
          exact .int _ _ IK_u8
      · have e1 : s.extract 0 l.length = s := by
          have : l.length = s.size := hz.symm
          rw [this]; exact ByteArray.extract_zero_size
        simp only [Builtin.firstCells, e1, Sem.run_pure]
        congr 2
        rw [← hsl, ← Array.toList_map, Array.toArray_toList]
    · cases h
  · rename_i z l
    cases h
    subst hc
    cases hx with
    | immE ad cap =>
      refine ⟨[], ⟨rfl, by simp, fun j x u hx => by simp at hx⟩, by simp, fun w => by simp [Builtin.lenOf], fun w _ => ?_⟩
      cases cap <;> simp [Builtin.firstCells, loadCells, loadCellsFrom]
    | imm _ _ ad cap f hcap hsz hsc hb hw hs' hcell hrel =>
      have had : ad = ⟨ad.block, ad.off, none⟩ := by cases ad; simp at hs'; subst hs'; rfl
      obtain ⟨vs, h1, h2⟩ := cells_from (P := P) (c := c) (l := l.flatten) (b := ad.block) (off := ad.off) hsc (fun j x hx => ⟨f j, hcell j (getElem?_lt hx), hrel j x hx⟩)
      refine ⟨vs, h1, flatten_len hsz, fun w => by simp [Builtin.lenOf], fun w hw' => ?_⟩
      have := h2 w hw'
      rw [flatten_len hsz] at this
      rw [had]
      simpa [Builtin.firstCells] using this
  · rename_i v
    split at h
    · cases h
      cases hx with
      | lit =>
        rename_i ad cap
        refine ⟨[], ⟨rfl, by simp, fun j x u hx => by simp at hx⟩, by simp, fun w => by simp [Builtin.lenOf], fun w _ => ?_⟩
        cases ad <;> simp [Builtin.firstCells, loadCells, loadCellsFrom]
    · cases h
  · rename_i i ver off len z
    split at h
    · rename_i t cs hl
      cases h
      obtain ⟨rfl, hfit⟩ := hc
      have hb := liveCells_some hl
      have hlen : ((cs.drop off).take (n * z)).length = n * z := by simp; omega
      cases hx with
      | own _ _ _ _ _ _ hvv hi' hle hn' hh =>
      cases hμ : c.μ i with
      | none =>
        obtain ⟨rfl, rfl, rfl⟩ := hn' (by rw [θ_of hb, hμ])
        exact ⟨[], ⟨by simp, by simp, fun j x u hx => by simp at hx⟩, by simp, fun w => by simp [Builtin.lenOf], fun w _ => by simp [Builtin.firstCells]⟩
      | some l =>
        obtain ⟨ad, cap, rfl, hcap, had, hfit2⟩ := hh l (by rw [θ_of hb, hμ])
        obtain ⟨vs0, fr, g1, g2, g3, g4, g5, g6⟩ := blk_cells hr hb hμ
        by_cases hcz : cap = 0
        · have hn0 : n = 0 := by omega
          subst hn0
          exact ⟨[], ⟨by simp, by simp, fun j x u hx => by simp at hx⟩, by simp, fun w => by simp [Builtin.lenOf], fun w _ => by simp [Builtin.firstCells, loadCells, loadCellsFrom]⟩
        · rw [had hcz]
          obtain ⟨vs, h1, h2⟩ := cells_from (P := P) (c := c) (l := (cs.drop off).take (n * z)) (b := l.b) (off := l.base + off)
            (fun x hx => g4 x (List.mem_of_mem_drop (List.mem_of_mem_take hx))) (fun j x hx => by
              rw [List.getElem?_take] at hx
              split at hx
              · rw [List.getElem?_drop] at hx
                obtain ⟨v, q1, q2⟩ := g5 _ x hx
                exact ⟨v, by rw [cell_heap g1, Nat.add_assoc]; exact q1, q2⟩
              · cases hx)
          refine ⟨vs, h1, hlen, fun w => by simp [Builtin.lenOf], fun w hw' => ?_⟩
          have := h2 w hw'
          rw [hlen] at this
          simpa [Builtin.firstCells] using this
    · cases h
  · cases h

theorem growBy_le (need : Nat) : ∀ (r c : Nat), c ≤ 2 * need → 256 ≤ c → Builtin.growBy need r c ≤ 2 * need
  | 0, c, h, _ => h
  | r + 1, c, h, hn => by
    simp only [Builtin.growBy]
    split
    · exact h
    · exact growBy_le need r _ (by omega) (by omega)

theorem nextslicecap_le (need old : Nat) (h : old < need) : Builtin.nextslicecap need old ≤ 2 * need := by
  unfold Builtin.nextslicecap
  split
  · omega
  · split
    · omega
    · exact growBy_le need 4 old (by omega) (by omega)

/-- a growing append: what it makes -/
theorem run_append_grow {ts : Array TypeId} {t u e : TypeId} {ty : TypeId} {i : TypeInfo} {z : Value} (h0 : ts[0]? = some t) (h1 : ts[1]? = some u) (ht : P.underlying t = some (.slice e)) {ud : TypeDesc} (hu : P.underlying u = some ud) (hnu : ∀ k, ud ≠ .int k)
    (hi : P.info? e = some i) (hz : i.zero = some z) {base : Option Addr} {sLen sCap n : Nat} {cx : Value} {w : World} {old new : List Value}
    (hlen : ∀ w : World, (Builtin.lenOf cx).run P w = .ok n w) (hnew : ∀ w' : World, w'.heap = w.heap → (Builtin.firstCells i.size n cx).run P w' = .ok new.toArray w')
    (hold : ∀ w' : World, w'.heap = w.heap → (Builtin.firstCells i.size sLen (.slice base sLen sCap)).run P w' = .ok old.toArray w')
    (hgt : sCap < sLen + n) (hb : 0 < i.bytes) (hle : (sLen + n) * i.bytes ≤ 70368744177664) :
    ∃ cap, (sLen + n ≤ cap ∧ cap ≤ 9223372036854775807) ∧ (Builtin.append_ ts ty #[.slice base sLen sCap, cx]).run P w =
      .ok (.slice (some ⟨w.heap.size, 0, none⟩) (sLen + n) cap) { w with heap := w.heap.push (.cells (old.toArray ++ new.toArray ++ Builtin.zeroCells z.cells (cap - (sLen + n))) e), drawn := w.drawn + 1 } := by
  have hneed : sLen + n ≤ 70368744177664 := Nat.le_trans (Nat.le_mul_of_pos_right _ hb) hle
  refine ⟨grownCap w (sLen + n) sCap e, ⟨grownCap_ge _ _ _ _, grownCap_le_maxLen _ _ _ _ (by unfold maxLen; omega)⟩, ?_⟩
  have c1 : ¬ (sLen + n ≤ sCap) := by omega
  have c2 : ¬ (9223372036854775807 < ((sLen : Int) + (n : Int))) := by omega
  have c3 : ¬ (281474976710656 < Builtin.nextslicecap (sLen + n) sCap * i.bytes) := by
    have := Nat.mul_le_mul_right i.bytes (nextslicecap_le (sLen + n) sCap hgt)
    rw [Nat.mul_assoc] at this
    omega
  have ho := hold w.drew rfl
  have hn := hnew w.drew rfl
  simp only [Builtin.append_, h0, h1]
  simp [run_underlying ht, run_underlying hu, Go.sizeOf, typeInfo, zeroValue, hz, hi, hlen, c1, c2, c3, Question.forced, ho, hn, newRow, grownCap]
  have e1 : (old ++ new).toArray = old.toArray ++ new.toArray := by simp
  rw [e1, Array.append_assoc]
  rfl

/-- an append with room -/
theorem run_append_fits {ts : Array TypeId} {t u e : TypeId} {ty : TypeId} {i : TypeInfo} (h0 : ts[0]? = some t) (h1 : ts[1]? = some u) (ht : P.underlying t = some (.slice e)) {ud : TypeDesc} (hu : P.underlying u = some ud) (hnu : ∀ k, ud ≠ .int k)
    (hi : P.info? e = some i) {ad : Addr} {sLen sCap n : Nat} {cx : Value} {w w' : World} {new : List Value}
    (hlen : ∀ w : World, (Builtin.lenOf cx).run P w = .ok n w) (hnew : ∀ w' : World, w'.heap = w.heap → (Builtin.firstCells i.size n cx).run P w' = .ok new.toArray w')
    (hle : sLen + n ≤ sCap) (hst : (storeCells (ad.add (sLen * i.size)) new).run P w = .ok () w') :
    (Builtin.append_ ts ty #[.slice (some ad) sLen sCap, cx]).run P w = .ok (.slice (some ad) (sLen + n) sCap) w' := by
  have hn := hnew w rfl
  simp only [Builtin.append_, h0, h1]
  simp [run_underlying ht, run_underlying hu, Go.sizeOf, typeInfo, hi, hlen, hle, hn, hst]

theorem run_append_none {ts : Array TypeId} {t u e : TypeId} {ty : TypeId} {i : TypeInfo} (h0 : ts[0]? = some t) (h1 : ts[1]? = some u) (ht : P.underlying t = some (.slice e)) {ud : TypeDesc} (hu : P.underlying u = some ud) (hnu : ∀ k, ud ≠ .int k)
    (hi : P.info? e = some i) {cx : Value} {w : World} {new : List Value}
    (hlen : ∀ w : World, (Builtin.lenOf cx).run P w = .ok 0 w) (hnew : ∀ w' : World, w'.heap = w.heap → (Builtin.firstCells i.size 0 cx).run P w' = .ok new.toArray w') :
    (Builtin.append_ ts ty #[.slice none 0 0, cx]).run P w = .ok (.slice none 0 0) w := by
  have hn := hnew w rfl
  simp only [Builtin.append_, h0, h1]
  simp [run_underlying ht, run_underlying hu, Go.sizeOf, typeInfo, hi, hlen, hn]

theorem firstCells_own {sz n : Nat} {ad : Addr} {cap : Nat} {l : List AV} {b off : Nat} (hl : l.length = n * sz) (had : n * sz ≠ 0 → ad = ⟨b, off, none⟩) (hsc : ∀ x ∈ l, sc x = true)
    (h : ∀ (j : Nat) (x : AV), l[j]? = some x → ∃ v, c.w.cell? ⟨b, off + j, none⟩ = some v ∧ VR c x v) :
    ∃ vs, CL c l vs ∧ ∀ w : World, w.heap = c.w.heap → (Builtin.firstCells sz n (.slice (some ad) n cap)).run P w = .ok vs.toArray w := by
  by_cases h0 : n * sz = 0
  · have : l = [] := List.eq_nil_of_length_eq_zero (by omega)
    subst this
    exact ⟨[], ⟨rfl, hsc, fun j x u hx => by simp at hx⟩, fun w _ => by simp [Builtin.firstCells, h0, loadCells, loadCellsFrom]⟩
  · obtain ⟨vs, h1, h2⟩ := cells_from (P := P) (c := c) (b := b) (off := off) hsc h
    refine ⟨vs, h1, fun w hw => ?_⟩
    rw [had h0]
    have := h2 w hw
    rw [hl] at this
    simpa [Builtin.firstCells] using this

theorem CL.append {l m : List AV} {vs us : List Value} (h : CL c l vs) (k : CL c m us) : CL c (l ++ m) (vs ++ us) := by
  refine ⟨by simp [h.len, k.len], fun x hx => ?_, fun j x u hx hu => ?_⟩
  · rcases List.mem_append.1 hx with hx | hx
    · exact h.sc x hx
    · exact k.sc x hx
  · by_cases hj : j < l.length
    · rw [List.getElem?_append_left hj] at hx
      rw [List.getElem?_append_left (by rw [← h.len]; exact hj)] at hu
      exact h.at_ j x u hx hu
    · rw [List.getElem?_append_right (by omega)] at hx
      have := h.len
      rw [List.getElem?_append_right (by omega)] at hu
      rw [this] at hx
      exact k.at_ _ x u hx hu

/-- what an append leaves, as an operation's run -/
theorem snd_append (hr : HR c) (ht : TR c tm a.tmps) {cl : Call} (ho : o.op = .call cl) (hcl : cl.callee = .builtin .append) {x y : Operand} (hargs : cl.args.toList = [x, y]) {t u e : TypeId} (hts : cl.argTypes.toList = [t, u])
    (hs : P.underlying t = some (.slice e)) {ud : TypeDesc} (hu : P.underlying u = some ud) (hnu : ∀ k, ud ≠ .int k) {i : TypeInfo} (hi : P.info? e = some i) {z : List AV} (hz : zeroC P e = some z) (hzl : z.length = i.size) :
    ResOk P o a c (opRes tm c.H (.append e i.size i.bytes z (cOpd x) (cOpd y))) := by
  obtain ⟨i', zv, hi', hz', hl, hrun, hok⟩ := zeroC_spec hz c.w
  rw [hi] at hi'; cases hi'
  have hx := ev_ok ht x
  have hy := ev_ok ht y
  have hargs' : cl.args = #[x, y] := by cases hc : cl.args; simp [hc] at hargs; simp [hargs]
  have hts' : cl.argTypes = #[t, u] := by cases hc : cl.argTypes; simp [hc] at hts; simp [hts]
  have t0 : cl.argTypes[0]? = some t := by rw [hts']; rfl
  have t1 : cl.argTypes[1]? = some u := by rw [hts']; rfl
  have run : ∀ r w', (Builtin.append_ cl.argTypes o.type #[a.eval x, a.eval y]).run P c.w = .ok r w' → (execOp a.eval o).run P c.w = .ok (.value r) w' := by
    intro r w' h
    simp [execOp, ho, resolve, hcl, invoke, builtin, hargs', h]
  simp only [opRes]
  have hx := hx.unC
  have hy := hy.unC
  generalize unC ((cOpd x).ev tm) = vx at hx ⊢
  generalize unC ((cOpd y).ev tm) = vy at hy ⊢
  unfold appendRes
  split
  · trivial
  · rename_i cnd new n happ
    split
    · -- nil
      rename_i v
      split
      · simp only [pushK, appK_eq, lenK_eq]
        rintro ⟨hc, h0, hb, hle⟩
        obtain ⟨news, hcl2, hnl, hlen, hnew⟩ := appended_ok (P := P) hr hy happ hc
        generalize hv : a.eval x = cv at hx
        cases hx with
        | lit =>
        obtain ⟨cap, ⟨hcap, hmx⟩, R⟩ := run_append_grow (P := P) (ty := o.type) (z := zv) t0 t1 hs hu hnu hi hz' (base := none) (sLen := 0) (sCap := 0) (n := n) (cx := a.eval y) (w := c.w) (old := []) (new := news) hlen hnew
          (fun w' _ => by simp [Builtin.firstCells]) (by omega) hb (by simpa using hle)
        simp only [Nat.zero_add] at hcap R
        rw [← hv] at R
        let cs : Array Value := (([] : List Value).toArray ++ news.toArray ++ Builtin.zeroCells zv.cells (cap - n))
        have hzs : zv.cells.size = i.size := by rw [← hzl, hl]; simp
        have hnl2 : news.length = n * i.size := by rw [← hcl2.len]; exact hnl
        have hcs : cs.size = cap * i.size := by
          simp only [cs, Array.size_append, List.size_toArray, List.length_nil, size_zeroCells, hzs, hnl2, Nat.zero_add, ← Nat.add_mul]
          congr 1; omega
        have A := alloc_ok hr e new cs (0, 0) (by rw [hnl, hcs]; exact Nat.mul_le_mul_right _ hcap) hcl2.sc (fun j x hx => by
          have hj := getElem?_lt hx
          have hj2 : j < news.length := by rw [← hcl2.len]; exact hj
          refine ⟨news[j], ?_, hcl2.at_ j x _ hx (List.getElem?_eq_getElem hj2)⟩
          simp only [cs]
          rw [Array.getElem?_append_left (by simp; exact hj2)]
          simp [hj2]) (fun q _ => by simp) (c.w.drawn + 1)
        refine ⟨_, _, rfl, A.1, A.2, own_new (cap := cap) hmx hcap (by simp [hcs]), .inl (run _ _ R)⟩
      · trivial
    · -- a slice of the function's own
      rename_i j ver off len z'
      split
      · rename_i t' cs hlc
        rw [setK_eq]
        rintro ⟨hc, rfl, rfl, hfit0, hb, hle⟩
        have hblk := liveCells_some hlc
        obtain ⟨news, hcl2, hnl, hlen, hnew⟩ := appended_ok (P := P) hr hy happ hc
        have hnl2 : news.length = n * i.size := by rw [← hcl2.len]; exact hnl
        have hzs : zv.cells.size = i.size := by rw [← hzl, hl]; simp
        have hjl : j < c.H.length := getElem?_lt hblk
        have holdlen : ((cs.drop off).take (len * i.size)).length = len * i.size := by simp; omega
        -- the value that comes back
        have OWN : ∀ (m : Option Loc) (w' : World) (v : Value), (∃ q l k, v = .slice q l k ∧ k ≤ 9223372036854775807) → (m = none → v = .slice none 0 0 ∧ len + n = 0) →
            (∀ p, m = some p → ∃ ad cap, v = .slice (some ad) (len + n) cap ∧ len + n ≤ cap ∧ (cap ≠ 0 → ad = ⟨p.b, p.base, none⟩) ∧ p.base + cap * i.size ≤ p.size) →
            VR (c.upd j ⟨ver + 1, true, .cells t' ((cs.drop off).take (len * i.size) ++ new)⟩ m [] w') (.own j (ver + 1) 0 (len + n) i.size) v := by
          intro m w' v hv1 hv2 hv3
          have hθ := upd_θi c j ⟨ver + 1, true, .cells t' ((cs.drop off).take (len * i.size) ++ new)⟩ m [] w' hjl
          simp only [if_true] at hθ
          refine .own _ _ _ _ _ _ hv1 (by simp [Cx.upd]; exact hjl) (fun v0 m0 h => ?_) (fun h => ?_) (fun l h => ?_)
          · rw [hθ] at h; cases h; exact Nat.le_refl _
          · rw [hθ] at h; cases h
            obtain ⟨q1, q2⟩ := hv2 rfl
            exact ⟨q1, q2, rfl⟩
          · rw [hθ] at h; cases h
            obtain ⟨ad, cap, q1, q2, q3, q4⟩ := hv3 l rfl
            exact ⟨ad, cap, q1, q2, fun h => by rw [q3 h]; simp, by simpa using q4⟩
        -- a new row
        have GROW : ∀ (base : Option Addr) (sCap : Nat), a.eval x = .slice base len sCap → sCap < len + n →
            (∃ olds, CL c ((cs.drop off).take (len * i.size)) olds ∧ ∀ w' : World, w'.heap = c.w.heap → (Builtin.firstCells i.size len (.slice base len sCap)).run P w' = .ok olds.toArray w') →
            OpOk P o a c (.own j (ver + 1) 0 (len + n) i.size) (c.H.set j ⟨ver + 1, true, .cells t' ((cs.drop off).take (len * i.size) ++ new)⟩) := by
          intro base sCap hv hgt ⟨olds, hco, hold⟩
          obtain ⟨cap, ⟨hcap, hmx⟩, R⟩ := run_append_grow (P := P) (ty := o.type) (z := zv) t0 t1 hs hu hnu hi hz' (base := base) (sLen := len) (sCap := sCap) (n := n) (cx := a.eval y) (w := c.w) (old := olds) (new := news) hlen hnew
            hold hgt hb hle
          rw [← hv] at R
          have hol : olds.length = len * i.size := by rw [← hco.len]; exact holdlen
          have hall := hco.append hcl2
          generalize hrow : (olds.toArray ++ news.toArray ++ Builtin.zeroCells zv.cells (cap - (len + n))) = row at R
          have hrs : row.size = cap * i.size := by
            rw [← hrow]
            simp only [Array.size_append, List.size_toArray, size_zeroCells, hzs, hnl2, hol, ← Nat.add_mul]
            congr 1; omega
          have W := write_ok hr j _ ⟨ver + 1, true, .cells t' ((cs.drop off).take (len * i.size) ++ new)⟩ hblk rfl rfl (some ⟨c.w.heap.size, 0, row.size⟩) []
            { c.w with heap := c.w.heap.push (.cells row t'), drawn := c.w.drawn + 1 } ⟨by simp, fun h => by simp at h⟩ rfl rfl rfl (by simp)
            (fun x hx _ => by simp only [Array.getElem?_push]; rw [if_neg (by omega)])
            (fun x hx => by
              rcases hx with ⟨l, h, rfl⟩ | h
              · cases h; exact ⟨.inr (Nat.le_refl _), by simp⟩
              · cases h) (by simp) (fun ex => by
              refine BR_cells (cs := row) (fr := (0, 0)) hall.sc (by simp [Cx.upd]) rfl (by simp only [List.length_append, holdlen, hnl, hrs, ← Nat.add_mul, Nat.zero_add]; exact Nat.mul_le_mul_right _ hcap) (fun q x hx => ?_) (fun q _ _ => by simp)
              have hq := getElem?_lt hx
              have hq2 : q < (olds ++ news).length := by rw [← hall.len]; exact hq
              refine ⟨(olds ++ news)[q], ?_, (hall.at_ q x _ hx (List.getElem?_eq_getElem hq2)).ext ex⟩
              have e9 : olds.toArray ++ news.toArray = (olds ++ news).toArray := by simp
              show row[0 + q]? = _
              rw [← hrow, Nat.zero_add, e9, Array.getElem?_append_left (by simpa using hq2), List.getElem?_toArray]
              exact List.getElem?_eq_getElem hq2)
          refine ⟨_, _, rfl, W.1, W.2, OWN _ _ _ ⟨_, _, _, rfl, hmx⟩ (fun h => by cases h) (fun p hp => ?_), .inl (run _ _ R)⟩
          cases hp
          exact ⟨_, cap, rfl, hcap, fun _ => rfl, by simp [hrs]⟩
        generalize hv : a.eval x = cv at hx
        cases hx with
        | own _ _ _ _ _ _ hvv hi' hle2 hn' hh =>
        cases hμ : c.μ j with
        | none =>
          obtain ⟨rfl, rfl, rfl⟩ := hn' (by rw [θ_of hblk, hμ])
          by_cases hn0 : n = 0
          · subst hn0
            have hne : new = [] := List.eq_nil_of_length_eq_zero (by simpa using hnl)
            subst hne
            have R := run_append_none (P := P) (ty := o.type) (w := c.w) t0 t1 hs hu hnu hi hlen hnew
            have W := write_ok hr j _ ⟨ver + 1, true, .cells t' ((cs.drop 0).take (0 * i.size) ++ [])⟩ hblk rfl rfl none [] c.w ⟨by simp, fun h => by simp at h⟩ rfl rfl rfl (Nat.le_refl _)
              (fun x _ _ => rfl) (fun x hx => by
                rcases hx with ⟨l, h, _⟩ | h
                · cases h
                · cases h) (by simp) (fun _ => ⟨rfl, by simp, by simp⟩)
            exact ⟨_, _, rfl, W.1, W.2, OWN _ _ _ ⟨_, _, _, rfl, by omega⟩ (fun _ => ⟨rfl, rfl⟩) (fun p hp => by cases hp), .inl (run _ _ (by rw [hv]; exact R))⟩
          · exact GROW none 0 hv (by omega) ⟨[], ⟨by simp, by simp, fun j x u hx => by simp at hx⟩, fun w' _ => by simp [Builtin.firstCells]⟩
        | some l =>
          obtain ⟨ad, cap, rfl, hcap, had, hfit⟩ := hh l (by rw [θ_of hblk, hμ])
          have hmx : cap ≤ 9223372036854775807 := by obtain ⟨_, _, _, h1, h2⟩ := hvv; cases h1; exact h2
          obtain ⟨vs, fr, g1, g2, g3, g4, g5, g6⟩ := blk_cells hr hblk hμ
          by_cases hroom : len + n ≤ cap
          · have hmul : (len + n) * i.size ≤ cap * i.size := Nat.mul_le_mul_right _ hroom
            rw [Nat.add_mul] at hmul
            have hscn : ∀ x ∈ (cs.drop off).take (len * i.size) ++ new, sc x = true := by
              intro x hx
              rcases List.mem_append.1 hx with hx | hx
              · exact g4 x (List.mem_of_mem_drop (List.mem_of_mem_take hx))
              · exact hcl2.sc x hx
            by_cases hcz : cap = 0
            · subst hcz
              have hl0 : len = 0 := by omega
              have hn0 : n = 0 := by omega
              subst hl0 hn0
              have hne : new = [] := List.eq_nil_of_length_eq_zero (by simpa using hnl)
              have hne2 : news = [] := List.eq_nil_of_length_eq_zero (by simpa using hnl2)
              subst hne hne2
              have R := run_append_fits (P := P) (ty := o.type) (w := c.w) (w' := c.w) t0 t1 hs hu hnu hi (ad := ad) hlen hnew (Nat.le_refl 0) (by simp [storeCells])
              have W := write_cells hr hblk hμ g1 (ver + 1) (l.base + off) ((cs.drop off).take (0 * i.size) ++ []) vs ⟨by omega, fun h => by omega⟩ rfl (by simp; simp at hfit; exact hfit) (by omega) hscn (fun q x hx => by simp at hx)
              rw [setRow_self c.w l.b vs t' fr g1] at W
              exact ⟨_, _, rfl, W.1, W.2, OWN _ _ _ ⟨_, _, _, rfl, by omega⟩ (fun h => by cases h) (fun p hp => by cases hp; exact ⟨ad, 0, rfl, Nat.le_refl _, fun h => absurd rfl h, by simpa using hfit⟩), .inl (run _ _ (by rw [hv]; exact R))⟩
            · have had' := had hcz
              have hst := run_storeCells_fr (P := P) l.b (l.base + off + len * i.size) t' fr news 0 vs c.w g1 (by rw [hnl2]; omega) (fun q h3 h4 => g6 q (by omega) (by rw [hnl2] at h4; omega)) hcl2.one
              simp only [Nat.add_zero] at hst
              have R := run_append_fits (P := P) (ty := o.type) (w := c.w) t0 t1 hs hu hnu hi (ad := ad) (sLen := len) (sCap := cap) hlen hnew hroom (by rw [had', addr_add]; exact hst)
              rw [← hv] at R
              have hlenN : (vs.toList.take (l.base + off + len * i.size) ++ news ++ vs.toList.drop (l.base + off + len * i.size + news.length)).length = vs.size := by
                simp only [List.length_append, List.length_take, List.length_drop, Array.length_toList]; omega
              have W := write_cells hr hblk hμ g1 (ver + 1) (l.base + off) ((cs.drop off).take (len * i.size) ++ new)
                (vs.toList.take (l.base + off + len * i.size) ++ news ++ vs.toList.drop (l.base + off + len * i.size + news.length)).toArray
                ⟨by omega, fun h => by omega⟩ (by simpa using hlenN) (by rw [List.length_append, holdlen, hnl]; omega) (by omega) hscn (fun q x hx => by
                  simp only [List.getElem?_toArray]
                  by_cases hq : q < len * i.size
                  · rw [List.getElem?_append_left (by rw [holdlen]; exact hq), List.getElem?_take, if_pos hq, List.getElem?_drop] at hx
                    obtain ⟨v, q1, q2⟩ := g5 _ x hx
                    refine ⟨v, ?_, q2⟩
                    rw [List.append_assoc, List.getElem?_append_left (by simp; omega), List.getElem?_take, if_pos (by omega), Array.getElem?_toList, Nat.add_assoc]
                    exact q1
                  · rw [List.getElem?_append_right (by rw [holdlen]; omega), holdlen] at hx
                    have hql := getElem?_lt hx
                    have hql2 : q - len * i.size < news.length := by rw [← hcl2.len]; exact hql
                    refine ⟨news[q - len * i.size], ?_, hcl2.at_ _ x _ hx (List.getElem?_eq_getElem hql2)⟩
                    rw [List.append_assoc, List.getElem?_append_right (by simp; omega)]
                    have e2 : (vs.toList.take (l.base + off + len * i.size)).length = l.base + off + len * i.size := by simp; omega
                    rw [e2, List.getElem?_append_left (by omega)]
                    have e3 : l.base + off + q - (l.base + off + len * i.size) = q - len * i.size := by omega
                    rw [e3]
                    exact List.getElem?_eq_getElem hql2)
              exact ⟨_, _, rfl, W.1, W.2, OWN _ _ _ ⟨_, _, _, rfl, hmx⟩ (fun h => by cases h) (fun p hp => by cases hp; exact ⟨ad, cap, rfl, hroom, fun _ => had', hfit⟩), .inl (run _ _ R)⟩
          · refine GROW (some ad) cap hv (by omega) (firstCells_own (b := l.b) (off := l.base + off) holdlen (fun h => had (by rintro rfl; simp at hcap; simp [hcap] at h)) (fun x hx => g4 x (List.mem_of_mem_drop (List.mem_of_mem_take hx))) (fun q x hx => ?_))
            rw [List.getElem?_take] at hx
            split at hx
            · rw [List.getElem?_drop] at hx
              obtain ⟨v, q1, q2⟩ := g5 _ x hx
              exact ⟨v, by rw [cell_heap g1, Nat.add_assoc]; exact q1, q2⟩
            · cases hx
      · trivial
    · trivial
end
end Ink

namespace Ink
open Go

section
variable {P : Program} {o : Oper} {a : Act} {c : Cx} {tm : List AV}

theorem set_idem {α : Type} {l : List α} {i : Nat} {x : α} (h : l[i]? = some x) : l.set i x = l := by
  apply List.ext_getElem?
  intro j
  rw [List.getElem?_set]
  split
  · rename_i e; subst e; rw [if_pos (getElem?_lt h), h]
  · rfl

/-- values laid over some cells of a block -/
theorem splice_ok (hr : HR c) {i ver : Nat} {t : TypeId} {cs : List AV} (hb : c.H[i]? = some ⟨ver, true, .cells t cs⟩) {l : Loc} (hμ : c.μ i = some l) {L : List AV} {V : List Value} (hL : CL c L V) {off : Nat} (hoff : off ≤ cs.length) (hfit : l.base + off + L.length ≤ l.size) :
    ∃ w' d, (storeCells ⟨l.b, l.base + off, none⟩ V).run P c.w = .ok () w' ∧ d.w = w' ∧ d.H = c.H.set i ⟨ver, true, .cells t (cs.take off ++ (L ++ cs.drop (off + L.length)))⟩ ∧ HR d ∧ Ext c d := by
  obtain ⟨vs, fr, g1, g2, g3, g4, g5, g6⟩ := blk_cells hr hb hμ
  have hLV := hL.len
  have hst := run_storeCells_fr (P := P) l.b (l.base + off) t fr V 0 vs c.w g1 (by omega) (fun q h3 h4 => g6 q (by omega) (by omega)) hL.one
  simp only [Nat.add_zero] at hst
  have hlen : (vs.toList.take (l.base + off) ++ V ++ vs.toList.drop (l.base + off + V.length)).length = vs.size := by
    simp only [List.length_append, List.length_take, List.length_drop, Array.length_toList]; omega
  have hsc' : ∀ x ∈ cs.take off ++ (L ++ cs.drop (off + L.length)), sc x = true := by
    intro x hx
    simp only [List.mem_append] at hx
    rcases hx with hx | hx | hx
    · exact g4 x (List.mem_of_mem_take hx)
    · exact hL.sc x hx
    · exact g4 x (List.mem_of_mem_drop hx)
  have hcells : ∀ (j : Nat) (x : AV), (cs.take off ++ (L ++ cs.drop (off + L.length)))[j]? = some x →
      ∃ v, (vs.toList.take (l.base + off) ++ V ++ vs.toList.drop (l.base + off + V.length)).toArray[l.base + j]? = some v ∧ VR c x v := by
    intro j x hx
    simp only [List.getElem?_toArray]
    by_cases hj : j < off
    · rw [List.getElem?_append_left (by simp; omega), List.getElem?_take, if_pos hj] at hx
      obtain ⟨v, q1, q2⟩ := g5 j x hx
      refine ⟨v, ?_, q2⟩
      rw [List.append_assoc, List.getElem?_append_left (by simp; omega), List.getElem?_take, if_pos (by omega)]
      simpa using q1
    · by_cases hj2 : j < off + L.length
      · rw [List.getElem?_append_right (by simp; omega), List.getElem?_append_left (by simp; omega)] at hx
        have e1 : min off cs.length = off := by omega
        simp only [List.length_take, e1] at hx
        have hjV : j - off < V.length := by omega
        refine ⟨V[j - off], ?_, hL.at_ (j - off) x _ hx (List.getElem?_eq_getElem hjV)⟩
        rw [List.append_assoc, List.getElem?_append_right (by simp; omega), List.getElem?_append_left (by simp; omega)]
        have e2 : min (l.base + off) vs.toList.length = l.base + off := by simp; omega
        simp only [List.length_take, e2]
        have e3 : l.base + j - (l.base + off) = j - off := by omega
        rw [e3]
        exact List.getElem?_eq_getElem hjV
      · rw [List.getElem?_append_right (by simp; omega), List.getElem?_append_right (by simp; omega)] at hx
        have e1 : min off cs.length = off := by omega
        simp only [List.length_take, e1, List.getElem?_drop] at hx
        have e4 : off + L.length + (j - off - L.length) = j := by omega
        rw [e4] at hx
        obtain ⟨v, q1, q2⟩ := g5 j x hx
        refine ⟨v, ?_, q2⟩
        rw [List.getElem?_append_right (by simp; omega)]
        simp only [List.length_append, List.length_take, Array.length_toList, List.getElem?_drop]
        have e5 : l.base + off + V.length + (l.base + j - (min (l.base + off) vs.size + V.length)) = l.base + j := by omega
        rw [e5]
        simpa using q1
  have W := write_cells hr hb hμ g1 ver l.base (cs.take off ++ (L ++ cs.drop (off + L.length))) (vs.toList.take (l.base + off) ++ V ++ vs.toList.drop (l.base + off + V.length)).toArray
    ⟨Nat.le_refl _, fun _ => rfl⟩ (by simpa using hlen) (by simp only [List.length_append, List.length_take, List.length_drop]; omega) (Nat.le_refl _) hsc' hcells
  exact ⟨_, _, hst, rfl, rfl, W.1, W.2⟩

/-- the place of a slice of the function's own -/
theorem own_at {i ver off len sz : Nat} {v : Value} {k : BK} (hx : VR c (.own i ver off len sz) v) (hk : c.H[i]? = some ⟨ver, true, k⟩) :
    (c.μ i = none ∧ v = .slice none 0 0 ∧ len = 0 ∧ off = 0) ∨ ∃ l ad cap, c.μ i = some l ∧ v = .slice (some ad) len cap ∧ len ≤ cap ∧ cap ≤ 9223372036854775807 ∧ (cap ≠ 0 → ad = ⟨l.b, l.base + off, none⟩) ∧ l.base + off + cap * sz ≤ l.size := by
  cases hx with
  | own _ _ _ _ _ _ hvm hi hle hn h =>
    cases hμ : c.μ i with
    | none => exact .inl ⟨rfl, hn (by rw [θ_of hk, hμ])⟩
    | some l =>
      obtain ⟨ad, cap, rfl, h2, h3, h4⟩ := h l (by rw [θ_of hk, hμ])
      obtain ⟨_, _, _, h5, h6⟩ := hvm
      cases h5
      exact .inr ⟨l, ad, cap, rfl, rfl, h2, h6, h3, h4⟩

theorem snd_cap (hr : HR c) (ht : TR c tm a.tmps) {cl : Call} (ho : o.op = .call cl) (hcl : cl.callee = .builtin .cap) {x : Operand} (hargs : cl.args.toList = [x]) {t e : TypeId} (hts : cl.argTypes.toList = [t])
    (hs : P.underlying t = some (.slice e)) : ResOk P o a c (xRes .cap [(cOpd x).ev tm] c.H) := by
  have hx := ev_ok ht x
  have hargs' : cl.args = #[x] := by cases hc : cl.args; simp [hc] at hargs; simp [hargs]
  have ht0 : cl.argTypes[0]? = some t := by rw [← Array.getElem?_toList, hts]; rfl
  have run : ∀ r w', (Builtin.cap_ cl.argTypes o.type #[a.eval x]).run P c.w = .ok r w' → (execOp a.eval o).run P c.w = .ok (.value r) w' := by
    intro r w' h
    simp [execOp, ho, resolve, hcl, invoke, builtin, hargs', h]
  generalize (cOpd x).ev tm = vx at hx
  simp only [xRes]
  cases vx <;> first | trivial | skip
  · rename_i v
    simp only
    split
    · generalize hv : a.eval x = u at hx
      cases hx with
      | lit => exact pureOp hr (run _ _ (by simp [Builtin.cap_, ht0, run_underlying hs, hv, goInt])) (.int _ _ (IK_i64.2 ⟨by omega, by omega⟩))
    · trivial
  · rename_i i ver off len cap sz
    simp only
    cases hx with
    | ownC _ _ _ _ _ _ _ h hc =>
    obtain ⟨a', hv⟩ := hc
    have hm : cap ≤ 9223372036854775807 := by
      cases h with
      | own _ _ _ _ _ _ hvm => obtain ⟨_, _, _, h5, h6⟩ := hvm; rw [hv] at h5; cases h5; exact h6
    exact pureOp hr (run _ _ (by simp [Builtin.cap_, ht0, run_underlying hs, hv, goInt])) (.int _ _ (IK_i64.2 ⟨by omega, by omega⟩))

theorem zero_CL {z : List AV} {zv : Value} (hl : z = zv.cells.toList.map lift1) (hok : zOk z = true) (n : Nat) (hpos : 0 < z.length) : CL c (repK n z) (Builtin.zeroCells zv.cells n).toList := by
  have h := rep_CR (zero_CR (c := c) hl hok) n hpos
  have hzs : zv.cells.size = z.length := by rw [hl]; simp
  have e : Builtin.zeroCells zv.cells n = (Array.range (n * z.length)).map (zv.cells[· % zv.cells.size]!) := by
    unfold Builtin.zeroCells; rw [hzs]
  rw [e]
  exact ⟨by rw [Array.length_toList]; exact h.len, h.sc, fun j x u hx hu => h.at_ j x u hx (by rw [← Array.getElem?_toList]; exact hu)⟩

theorem snd_clear (hr : HR c) (ht : TR c tm a.tmps) {cl : Call} (ho : o.op = .call cl) (hcl : cl.callee = .builtin .clear) {x : Operand} (hargs : cl.args.toList = [x]) {t e : TypeId} (hts : cl.argTypes.toList = [t])
    (hs : P.underlying t = some (.slice e)) {n : Nat} (hn : szT P e = some n) {z : List AV} (hz : zeroC P e = some z) (hzl : z.length = n) (hpos : 0 < n) : ResOk P o a c (xRes (.clear n z) [(cOpd x).ev tm] c.H) := by
  have hx := ev_ok ht x
  obtain ⟨inf, zv, hi, hz', hl, hrun, hok⟩ := zeroC_spec hz c.w
  have hargs' : cl.args = #[x] := by cases hc : cl.args; simp [hc] at hargs; simp [hargs]
  have ht0 : cl.argTypes[0]? = some t := by rw [← Array.getElem?_toList, hts]; rfl
  have run : ∀ r w', (Builtin.clear_ cl.argTypes o.type #[a.eval x]).run P c.w = .ok r w' → (execOp a.eval o).run P c.w = .ok (.value r) w' := by
    intro r w' h
    simp [execOp, ho, resolve, hcl, invoke, builtin, hargs', h]
  have VT : ∀ d, VR d (.tup []) (.tuple #[]) := fun d => .tup [] #[] rfl (fun j x v hx => by simp at hx)
  generalize (cOpd x).ev tm = vx at hx
  simp only [xRes]
  cases vx <;> first | trivial | skip
  · rename_i v
    simp only
    split
    · generalize hv : a.eval x = u at hx
      cases hx with
      | lit => exact pureOp hr (run _ _ (by simp [Builtin.clear_, ht0, run_underlying hs, hv])) (VT c)
    · trivial
  · rename_i i ver off len sz
    simp only
    split
    · rename_i t' cs hlc
      rw [setK_eq]
      rintro ⟨hszn, hoff⟩
      obtain rfl : n = sz := hszn.symm
      have hb := liveCells_some hlc
      generalize hv : a.eval x = v at hx
      have same : len = 0 → c.H.set i ⟨ver, true, .cells t' (cs.take off ++ (repK len z ++ cs.drop (off + len * n)))⟩ = c.H := by
        intro h0
        subst h0
        rw [Nat.zero_mul, Nat.add_zero]
        have : cs.take off ++ (repK 0 z ++ cs.drop off) = cs := by simp [repK]
        rw [this]
        exact set_idem hb
      rcases own_at hx hb with ⟨hμ, rfl, h0, h1⟩ | ⟨l, ad, cap, hμ, rfl, hcap, hmx, had, hfit⟩
      · rw [same h0]
        exact pureOp hr (run _ _ (by simp [Builtin.clear_, ht0, run_underlying hs, hv])) (VT c)
      · by_cases h0 : len = 0
        · rw [same h0]
          subst h0
          exact pureOp hr (run _ _ (by simp [Builtin.clear_, ht0, run_underlying hs, hv])) (VT c)
        · have had := had (by omega)
          subst had
          have hZ := zero_CL (c := c) hl hok len (by omega)
          have hZl : (repK len z).length = len * n := by rw [repK_len, hzl]
          have hmul := Nat.mul_le_mul_right n hcap
          obtain ⟨w', d, q1, rfl, q3, q4, q5⟩ := splice_ok (P := P) hr hb hμ hZ hoff (by rw [hZl]; omega)
          rw [hZl] at q3
          refine ⟨.tuple #[], d, q3, q4, q5, VT d, .inl (run _ _ ?_)⟩
          simp [Builtin.clear_, ht0, run_underlying hs, hv, hrun, q1]
    · trivial

theorem copySrc_ok (hr : HR c) {sz n m : Nat} {vx : AV} {cx : Value} {cnd : Prop} {new : List AV} (hx : VR c vx cx) (h : copySrc c.H sz vx = some (cnd, new, n)) (hc : cnd) (hm : m ≤ n) (hfit : m * sz ≤ new.length) :
    (∀ w : World, (Builtin.lenOf cx).run P w = .ok n w) ∧ ∃ vs, CL c (new.take (m * sz)) vs ∧ (Builtin.firstCells sz m cx).run P c.w = .ok vs.toArray c.w := by
  unfold copySrc at h
  have nil : ∀ (ad : Option Addr) (k j cap : Nat), k = 0 → (Builtin.firstCells k m (.slice ad j cap)).run P c.w = .ok #[] c.w := by
    rintro ad k j cap rfl
    cases ad <;> simp [Builtin.firstCells, loadCells, loadCellsFrom]
  have nil2 : ∀ (ad : Option Addr) (j cap : Nat), (Builtin.firstCells sz 0 (.slice ad j cap)).run P c.w = .ok #[] c.w := by
    intro ad j cap
    cases ad <;> simp [Builtin.firstCells, loadCells, loadCellsFrom]
  split at h
  · rename_i z l
    cases h
    subst hc
    cases hx with
    | immE ad cap =>
      obtain rfl : m = 0 := by simpa using hm
      exact ⟨fun w => by simp [Builtin.lenOf], [], ⟨by simp, by simp, fun j x u hx => by simp at hx⟩, nil2 _ _ _⟩
    | imm _ _ ad cap f hcap hsz hsc hb hw hs' hcell hrel =>
      have had : ad = ⟨ad.block, ad.off, none⟩ := by cases ad; simp at hs'; subst hs'; rfl
      have hlen : (l.flatten.take (m * z)).length = m * z := by simp only [List.length_take]; omega
      obtain ⟨vs, h1, h2⟩ := cells_from (P := P) (c := c) (l := l.flatten.take (m * z)) (b := ad.block) (off := ad.off) (fun x hx => hsc x (List.mem_of_mem_take hx)) (fun j x hx => by
        rw [List.getElem?_take] at hx
        split at hx
        · exact ⟨f j, hcell j (getElem?_lt hx), hrel j x hx⟩
        · cases hx)
      refine ⟨fun w => by simp [Builtin.lenOf], vs, h1, ?_⟩
      have := h2 c.w rfl
      rw [hlen] at this
      rw [had]
      simpa [Builtin.firstCells] using this
  · rename_i v
    split at h
    · cases h
      cases hx with
      | lit =>
        obtain rfl : m = 0 := by omega
        exact ⟨fun w => by simp [Builtin.lenOf], [], ⟨by simp, by simp, fun j x u hx => by simp at hx⟩, nil2 _ _ _⟩
    · cases h
  · rename_i i ver off len z
    split at h
    · rename_i t cs hl
      cases h
      subst hc
      have hb := liveCells_some hl
      rcases own_at hx hb with ⟨hμ, rfl, rfl, rfl⟩ | ⟨l, ad, cap, hμ, rfl, hcap, hmx, had, hfit2⟩
      · obtain rfl : m = 0 := by omega
        exact ⟨fun w => by simp [Builtin.lenOf], [], ⟨by simp, by simp, fun j x u hx => by simp at hx⟩, nil2 _ _ _⟩
      · refine ⟨fun w => by simp [Builtin.lenOf], ?_⟩
        obtain ⟨vs0, fr, g1, g2, g3, g4, g5, g6⟩ := blk_cells hr hb hμ
        have hlen : ((cs.drop off).take (m * z)).length = m * z := by simp only [List.length_take]; omega
        by_cases h0 : m = 0
        · subst h0
          exact ⟨[], ⟨by simp, by simp, fun j x u hx => by simp at hx⟩, nil2 _ _ _⟩
        · rw [had (by omega)]
          obtain ⟨vs, h1, h2⟩ := cells_from (P := P) (c := c) (l := (cs.drop off).take (m * z)) (b := l.b) (off := l.base + off)
            (fun x hx => g4 x (List.mem_of_mem_drop (List.mem_of_mem_take hx))) (fun j x hx => by
              rw [List.getElem?_take] at hx
              split at hx
              · rw [List.getElem?_drop] at hx
                obtain ⟨v, q1, q2⟩ := g5 _ x hx
                exact ⟨v, by rw [cell_heap g1, Nat.add_assoc]; exact q1, q2⟩
              · cases hx)
          refine ⟨vs, h1, ?_⟩
          have := h2 c.w rfl
          rw [hlen] at this
          simpa [Builtin.firstCells] using this
    · cases h
  · cases h

theorem snd_copy (hr : HR c) (ht : TR c tm a.tmps) {cl : Call} (ho : o.op = .call cl) (hcl : cl.callee = .builtin .copy) {x y : Operand} (hargs : cl.args.toList = [x, y]) {t u e : TypeId} (hts : cl.argTypes.toList = [t, u])
    (hs : P.underlying t = some (.slice e)) {n : Nat} (hn : szT P e = some n) : ResOk P o a c (xRes (.copy n) [(cOpd x).ev tm, (cOpd y).ev tm] c.H) := by
  have hx := ev_ok ht x
  have hy := ev_ok ht y
  obtain ⟨inf, hinf, hsz, hszr⟩ := szT_spec hn c.w
  have hargs' : cl.args = #[x, y] := by cases hc : cl.args; simp [hc] at hargs; simp [hargs]
  have ht0 : cl.argTypes[0]? = some t := by rw [← Array.getElem?_toList, hts]; rfl
  have run : ∀ r w', (Builtin.copy_ cl.argTypes o.type #[a.eval x, a.eval y]).run P c.w = .ok r w' → (execOp a.eval o).run P c.w = .ok (.value r) w' := by
    intro r w' h
    simp [execOp, ho, resolve, hcl, invoke, builtin, hargs', h]
  generalize (cOpd x).ev tm = vx at hx
  generalize (cOpd y).ev tm = vy at hy
  simp only [xRes]
  have hx := hx.unC
  have hy := hy.unC
  generalize unC vx = vx at hx ⊢
  generalize unC vy = vy at hy ⊢
  split
  · trivial
  · rename_i cnd new k hsrc
    cases vx <;> first | trivial | skip
    · rename_i v
      simp only
      split
      · intro hc
        obtain ⟨hlen, vs, hcl2, hfc⟩ := copySrc_ok (P := P) hr hy hsrc hc (Nat.zero_le k) (by simp)
        generalize hv : a.eval x = u at hx
        cases hx with
        | lit =>
          refine pureOp hr (run _ _ ?_) (.int _ _ (IK_i64.2 ⟨by omega, by omega⟩))
          simp [Builtin.copy_, ht0, run_underlying hs, hv, goInt, hlen, hszr, hfc]
      · trivial
    · rename_i i ver off len sz
      simp only
      split
      · rename_i t' cs hlc
        rw [setK_eq]
        rintro ⟨hc, hszn, hoff, hfitn⟩
        obtain rfl : n = sz := hszn.symm
        have hb := liveCells_some hlc
        obtain ⟨hlen, vs, hcl2, hfc⟩ := copySrc_ok (P := P) hr hy hsrc hc (Nat.min_le_left k len) hfitn
        have hLl : (new.take (min k len * n)).length = min k len * n := by simp only [List.length_take]; omega
        generalize hv : a.eval x = v at hx
        have same : min k len * n = 0 → c.H.set i ⟨ver, true, .cells t' (cs.take off ++ (new.take (min k len * n) ++ cs.drop (off + min k len * n)))⟩ = c.H := by
          intro h0
          rw [h0, Nat.add_zero]
          have : cs.take off ++ (new.take 0 ++ cs.drop off) = cs := by simp
          rw [this]
          exact set_idem hb
        rcases own_at hx hb with ⟨hμ, rfl, h0, h1⟩ | ⟨l, ad, cap, hμ, rfl, hcap, hmx, had, hfit⟩
        · subst h0
          rw [same (by simp)]
          refine pureOp hr (run _ _ ?_) (.int _ _ (IK_i64.2 ⟨by omega, by omega⟩))
          simp only [Nat.min_zero] at hfc
          simp [Builtin.copy_, ht0, run_underlying hs, hv, goInt, hlen, hszr, hfc]
        · by_cases h0 : min k len * n = 0
          · rw [same h0]
            have hvs : vs = [] := List.eq_nil_of_length_eq_zero (by rw [← hcl2.len, hLl, h0])
            subst hvs
            refine pureOp hr (run _ _ ?_) (.int _ _ (IK_i64.2 ⟨by omega, by omega⟩))
            simp [Builtin.copy_, ht0, run_underlying hs, hv, goInt, hlen, hszr, hfc, storeCells]
          · have hlz : len ≠ 0 := by rintro rfl; simp at h0
            have had := had (by omega)
            subst had
            have hmul := Nat.mul_le_mul_right n hcap
            have hmul2 := Nat.mul_le_mul_right n (Nat.min_le_right k len)
            obtain ⟨w', d, q1, rfl, q3, q4, q5⟩ := splice_ok (P := P) hr hb hμ hcl2 hoff (by rw [hLl]; omega)
            rw [hLl] at q3
            refine ⟨_, d, q3, q4, q5, .int _ _ (IK_i64.2 ⟨by omega, by omega⟩), .inl (run _ _ ?_)⟩
            simp [Builtin.copy_, ht0, run_underlying hs, hv, goInt, hlen, hszr, hfc, q1]
      · trivial
/-- an append of zeros that grows -/
theorem run_zeros_grow {ts : Array TypeId} {t u e : TypeId} {ty : TypeId} {i : TypeInfo} {z : Value} (h0 : ts[0]? = some t) (h1 : ts[1]? = some u) (ht : P.underlying t = some (.slice e)) (hu : P.underlying u = some (.int .i64))
    (hi : P.info? e = some i) (hz : i.zero = some z) {base : Option Addr} {sLen sCap n : Nat} {k : IntKind} {nn : Int} {w : World} {old : List Value} (hnn : nn = n) (hnm : n ≤ 9223372036854775807) (hpos : 0 < i.size) (hn0 : 0 < n)
    (hold : ∀ w' : World, w'.heap = w.heap → (Builtin.firstCells i.size sLen (.slice base sLen sCap)).run P w' = .ok old.toArray w')
    (hgt : sCap < sLen + n) (hb : 0 < i.bytes) (hle : (sLen + n) * i.bytes ≤ 70368744177664) :
    ∃ cap, (sLen + n ≤ cap ∧ cap ≤ 9223372036854775807) ∧ (Builtin.append_ ts ty #[.slice base sLen sCap, .int k nn]).run P w =
      .ok (.slice (some ⟨w.heap.size, 0, none⟩) (sLen + n) cap) { w with heap := w.heap.push (.cells (old.toArray ++ Builtin.zeroCells z.cells n ++ Builtin.zeroCells z.cells (cap - (sLen + n))) e), drawn := w.drawn + 1 } := by
  subst hnn
  have hneed : sLen + n ≤ 70368744177664 := Nat.le_trans (Nat.le_mul_of_pos_right _ hb) hle
  refine ⟨grownCap w (sLen + n) sCap e, ⟨grownCap_ge _ _ _ _, grownCap_le_maxLen _ _ _ _ (by unfold maxLen; omega)⟩, ?_⟩
  have c1 : ¬ (sLen + n ≤ sCap) := by omega
  have c2 : ¬ (9223372036854775807 < ((sLen : Int) + (n : Int))) := by omega
  have c3 : ¬ (281474976710656 < Builtin.nextslicecap (sLen + n) sCap * i.bytes) := by
    have := Nat.mul_le_mul_right i.bytes (nextslicecap_le (sLen + n) sCap hgt)
    rw [Nat.mul_assoc] at this
    omega
  have hw : IntKind.i64.wrap (n : Int) = n := wrap_i64 ⟨by omega, by omega⟩
  have c4 : ¬ (281474976710656 < (n : Int) * (i.bytes : Int)) := by
    have : n * i.bytes ≤ (sLen + n) * i.bytes := Nat.mul_le_mul_right _ (by omega)
    rw [← Int.natCast_mul]
    omega
  have c5 : ¬ ((n : Int) < 0) := by omega
  have c7 : ¬ (n * i.size = 0) := Nat.mul_ne_zero (by omega) (by omega)
  have ho := hold w.drew rfl
  simp only [Builtin.append_, h0, h1]
  simp [run_underlying ht, run_underlying hu, Go.sizeOf, typeInfo, zeroValue, hz, hi, asInt, asIntOf, hw, c1, c2, c3, c4, c5, c7, Question.forced, ho, newRow, grownCap]
  rfl

theorem run_zeros_fits {ts : Array TypeId} {t u e : TypeId} {ty : TypeId} {i : TypeInfo} {z : Value} (h0 : ts[0]? = some t) (h1 : ts[1]? = some u) (ht : P.underlying t = some (.slice e)) (hu : P.underlying u = some (.int .i64))
    (hi : P.info? e = some i) (hz : i.zero = some z) (hzs : z.cells.size = i.size) {ad : Addr} {sLen sCap n : Nat} {k : IntKind} {nn : Int} {w w' : World} (hnn : nn = n) (hnm : n ≤ 9223372036854775807) (hb : 0 < i.bytes) (hle2 : n * i.bytes ≤ 70368744177664)
    (hle : sLen + n ≤ sCap) (hst : (storeCells (ad.add (sLen * i.size)) (Builtin.zeroCells z.cells n).toList).run P w = .ok () w') :
    (Builtin.append_ ts ty #[.slice (some ad) sLen sCap, .int k nn]).run P w = .ok (.slice (some ad) (sLen + n) sCap) w' := by
  subst hnn
  have hw : IntKind.i64.wrap (n : Int) = n := wrap_i64 ⟨by omega, by omega⟩
  have c4 : ¬ (281474976710656 < (n : Int) * (i.bytes : Int)) := by
    rw [← Int.natCast_mul]
    omega
  have c5 : ¬ ((n : Int) < 0) := by omega
  simp only [Builtin.append_, h0, h1]
  by_cases h00 : n * i.size = 0
  · have e0 : Builtin.zeroCells z.cells n = #[] := Array.eq_empty_of_size_eq_zero (by rw [size_zeroCells, hzs]; exact h00)
    rw [e0] at hst
    simp only [Array.toList_empty] at hst
    simp [run_underlying ht, run_underlying hu, Go.sizeOf, typeInfo, zeroValue, hz, hi, asInt, asIntOf, hw, hle, c4, c5, h00, hst]
  · simp [run_underlying ht, run_underlying hu, Go.sizeOf, typeInfo, zeroValue, hz, hi, asInt, asIntOf, hw, hle, c4, c5, h00, hst]

theorem run_zeros_none {ts : Array TypeId} {t u e : TypeId} {ty : TypeId} {i : TypeInfo} (h0 : ts[0]? = some t) (h1 : ts[1]? = some u) (ht : P.underlying t = some (.slice e)) (hu : P.underlying u = some (.int .i64))
    (hi : P.info? e = some i) {k : IntKind} {nn : Int} {w : World} (hnn : nn = 0) :
    (Builtin.append_ ts ty #[.slice none 0 0, .int k nn]).run P w = .ok (.slice none 0 0) w := by
  subst hnn
  have hw : IntKind.i64.wrap (0 : Int) = 0 := by decide
  simp only [Builtin.append_, h0, h1]
  simp [run_underlying ht, run_underlying hu, Go.sizeOf, typeInfo, hi, asInt, asIntOf, hw]

theorem snd_appendZ (hr : HR c) (ht : TR c tm a.tmps) {cl : Call} (ho : o.op = .call cl) (hcl : cl.callee = .builtin .append) {x y : Operand} (hargs : cl.args.toList = [x, y]) {t u e : TypeId} (hts : cl.argTypes.toList = [t, u])
    (hs : P.underlying t = some (.slice e)) (hu : P.underlying u = some (.int .i64)) {i : TypeInfo} (hi : P.info? e = some i) {z : List AV} (hz : zeroC P e = some z) (hzl : z.length = i.size) (hpos : 0 < i.size) :
    ResOk P o a c (xRes (.appendZ e i.size i.bytes z) [(cOpd x).ev tm, (cOpd y).ev tm] c.H) := by
  obtain ⟨i', zv, hi', hz', hl, hrun, hok⟩ := zeroC_spec hz c.w
  rw [hi] at hi'; cases hi'
  have hx := ev_ok ht x
  have hy := ev_ok ht y
  have hargs' : cl.args = #[x, y] := by cases hc : cl.args; simp [hc] at hargs; simp [hargs]
  have hts' : cl.argTypes = #[t, u] := by cases hc : cl.argTypes; simp [hc] at hts; simp [hts]
  have t0 : cl.argTypes[0]? = some t := by rw [hts']; rfl
  have t1 : cl.argTypes[1]? = some u := by rw [hts']; rfl
  have run : ∀ r w', (Builtin.append_ cl.argTypes o.type #[a.eval x, a.eval y]).run P c.w = .ok r w' → (execOp a.eval o).run P c.w = .ok (.value r) w' := by
    intro r w' h
    simp [execOp, ho, resolve, hcl, invoke, builtin, hargs', h]
  generalize (cOpd x).ev tm = vx at hx
  generalize (cOpd y).ev tm = vy at hy
  have hzs : zv.cells.size = i.size := by rw [← hzl, hl]; simp
  simp only [xRes]
  cases vy <;> first | trivial | skip
  rename_i k nn
  simp only
  generalize hvy : a.eval y = cy at hy
  cases hy with
  | int _ _ hik =>
  generalize hn : nn.toNat = n
  obtain ⟨news, hnews⟩ : ∃ news, (Builtin.zeroCells zv.cells n).toList = news := ⟨_, rfl⟩
  obtain ⟨new, hnw⟩ : ∃ new, repK n z = new := ⟨_, rfl⟩
  have hcl2 : CL c new news := by rw [← hnews, ← hnw]; exact zero_CL hl hok n (by omega)
  have hnl : new.length = n * i.size := by rw [← hnw, repK_len, hzl]
  have hnl2 : news.length = n * i.size := by rw [← hcl2.len]; exact hnl
  rw [hnw]
  cases vx <;> first | trivial | skip
  · rename_i v
    simp only
    split
    · simp only [pushK, appK_eq, lenK_eq]
      rintro ⟨h0, hb, hle⟩
      generalize hv : a.eval x = cv at hx
      cases hx with
      | lit =>
      have hn8 : n ≤ 70368744177664 := Nat.le_trans (Nat.le_mul_of_pos_right _ hb) hle
      obtain ⟨cap, ⟨hcap, hmx⟩, R⟩ := run_zeros_grow (P := P) (ty := o.type) (z := zv) t0 t1 hs hu hi hz' (base := none) (sLen := 0) (sCap := 0) (n := n) (k := k) (nn := nn) (w := c.w) (old := []) (by omega) (by omega) hpos (by omega)
        (fun w' _ => by simp [Builtin.firstCells]) (by omega) hb (by simpa using hle)
      simp only [Nat.zero_add] at hcap R
      rw [← hv, ← hvy] at R
      let cs : Array Value := (([] : List Value).toArray ++ Builtin.zeroCells zv.cells n ++ Builtin.zeroCells zv.cells (cap - n))
      have hcs : cs.size = cap * i.size := by
        simp only [cs, Array.size_append, List.size_toArray, List.length_nil, size_zeroCells, hzs, Nat.zero_add, ← Nat.add_mul]
        congr 1; omega
      have A := alloc_ok hr e new cs (0, 0) (by rw [hnl, hcs]; exact Nat.mul_le_mul_right _ hcap) hcl2.sc (fun j x hx => by
        have hj := getElem?_lt hx
        have hj2 : j < news.length := by rw [← hcl2.len]; exact hj
        refine ⟨news[j], ?_, hcl2.at_ j x _ hx (List.getElem?_eq_getElem hj2)⟩
        have hj3 : j < (Builtin.zeroCells zv.cells n).size := by rw [← Array.length_toList, hnews]; exact hj2
        simp only [cs]
        rw [Array.getElem?_append_left (by simp; exact hj3)]
        simp only [List.nil_append, Array.empty_append]
        rw [← Array.getElem?_toList, hnews]
        exact List.getElem?_eq_getElem hj2) (fun q _ => by simp) (c.w.drawn + 1)
      exact ⟨_, _, rfl, A.1, A.2, own_new (cap := cap) hmx hcap (by simp [hcs]), .inl (run _ _ R)⟩
    · trivial
  · rename_i j ver off len z'
    simp only
    split
    · rename_i t' cs hlc
      rw [setK_eq]
      rintro ⟨h0, hzz, htt, hfit0, hb, hle⟩
      obtain rfl : i.size = z' := hzz.symm
      obtain rfl : t' = e := htt
      have hnn : nn = n := by omega
      have hn9 : len + n ≤ 70368744177664 := Nat.le_trans (Nat.le_mul_of_pos_right _ hb) hle
      have hnm : n ≤ 9223372036854775807 := by omega
      have hnb : n * i.bytes ≤ 70368744177664 := Nat.le_trans (Nat.mul_le_mul_right _ (Nat.le_add_left n len)) hle
      have hblk := liveCells_some hlc
      have hjl : j < c.H.length := getElem?_lt hblk
      have holdlen : ((cs.drop off).take (len * i.size)).length = len * i.size := by simp; omega
      -- the value that comes back
      have OWN : ∀ (m : Option Loc) (w' : World) (v : Value), (∃ q l k, v = .slice q l k ∧ k ≤ 9223372036854775807) → (m = none → v = .slice none 0 0 ∧ len + n = 0) →
          (∀ p, m = some p → ∃ ad cap, v = .slice (some ad) (len + n) cap ∧ len + n ≤ cap ∧ (cap ≠ 0 → ad = ⟨p.b, p.base, none⟩) ∧ p.base + cap * i.size ≤ p.size) →
          VR (c.upd j ⟨ver + 1, true, .cells t' ((cs.drop off).take (len * i.size) ++ new)⟩ m [] w') (.own j (ver + 1) 0 (len + n) i.size) v := by
        intro m w' v hv1 hv2 hv3
        have hθ := upd_θi c j ⟨ver + 1, true, .cells t' ((cs.drop off).take (len * i.size) ++ new)⟩ m [] w' hjl
        simp only [if_true] at hθ
        refine .own _ _ _ _ _ _ hv1 (by simp [Cx.upd]; exact hjl) (fun v0 m0 h => ?_) (fun h => ?_) (fun l h => ?_)
        · rw [hθ] at h; cases h; exact Nat.le_refl _
        · rw [hθ] at h; cases h
          obtain ⟨q1, q2⟩ := hv2 rfl
          exact ⟨q1, q2, rfl⟩
        · rw [hθ] at h; cases h
          obtain ⟨ad, cap, q1, q2, q3, q4⟩ := hv3 l rfl
          exact ⟨ad, cap, q1, q2, fun h => by rw [q3 h]; simp, by simpa using q4⟩
      -- a new row
      have GROW : ∀ (base : Option Addr) (sCap : Nat), a.eval x = .slice base len sCap → sCap < len + n → 0 < n →
          (∃ olds, CL c ((cs.drop off).take (len * i.size)) olds ∧ ∀ w' : World, w'.heap = c.w.heap → (Builtin.firstCells i.size len (.slice base len sCap)).run P w' = .ok olds.toArray w') →
          OpOk P o a c (.own j (ver + 1) 0 (len + n) i.size) (c.H.set j ⟨ver + 1, true, .cells t' ((cs.drop off).take (len * i.size) ++ new)⟩) := by
        intro base sCap hv hgt hnp ⟨olds, hco, hold⟩
        obtain ⟨cap, ⟨hcap, hmx⟩, R⟩ := run_zeros_grow (P := P) (ty := o.type) (z := zv) t0 t1 hs hu hi hz' (base := base) (sLen := len) (sCap := sCap) (n := n) (k := k) (nn := nn) (w := c.w) (old := olds) hnn hnm hpos (by omega)
          hold hgt hb hle
        rw [← hv, ← hvy] at R
        have hol : olds.length = len * i.size := by rw [← hco.len]; exact holdlen
        have hall := hco.append hcl2
        generalize hrow : (olds.toArray ++ Builtin.zeroCells zv.cells n ++ Builtin.zeroCells zv.cells (cap - (len + n))) = row at R
        have hrs : row.size = cap * i.size := by
          rw [← hrow]
          simp only [Array.size_append, List.size_toArray, size_zeroCells, hzs, hol, ← Nat.add_mul]
          congr 1; omega
        have W := write_ok hr j _ ⟨ver + 1, true, .cells t' ((cs.drop off).take (len * i.size) ++ new)⟩ hblk rfl rfl (some ⟨c.w.heap.size, 0, row.size⟩) []
          { c.w with heap := c.w.heap.push (.cells row t'), drawn := c.w.drawn + 1 } ⟨by simp, fun h => by simp at h⟩ rfl rfl rfl (by simp)
          (fun x hx _ => by simp only [Array.getElem?_push]; rw [if_neg (by omega)])
          (fun x hx => by
            rcases hx with ⟨l, h, rfl⟩ | h
            · cases h; exact ⟨.inr (Nat.le_refl _), by simp⟩
            · cases h) (by simp) (fun ex => by
            refine BR_cells (cs := row) (fr := (0, 0)) hall.sc (by simp [Cx.upd]) rfl (by simp only [List.length_append, holdlen, hnl, hrs, ← Nat.add_mul, Nat.zero_add]; exact Nat.mul_le_mul_right _ hcap) (fun q x hx => ?_) (fun q _ _ => by simp)
            have hq := getElem?_lt hx
            have hq2 : q < (olds ++ news).length := by rw [← hall.len]; exact hq
            refine ⟨(olds ++ news)[q], ?_, (hall.at_ q x _ hx (List.getElem?_eq_getElem hq2)).ext ex⟩
            have e9 : olds.toArray ++ Builtin.zeroCells zv.cells n = (olds ++ news).toArray := by rw [← hnews]; simp
            show row[0 + q]? = _
            rw [← hrow, Nat.zero_add, e9, Array.getElem?_append_left (by simpa using hq2), List.getElem?_toArray]
            exact List.getElem?_eq_getElem hq2)
        refine ⟨_, _, rfl, W.1, W.2, OWN _ _ _ ⟨_, _, _, rfl, hmx⟩ (fun h => by cases h) (fun p hp => ?_), .inl (run _ _ R)⟩
        cases hp
        exact ⟨_, cap, rfl, hcap, fun _ => rfl, by simp [hrs]⟩
      generalize hv : a.eval x = cv at hx
      cases hx with
      | own _ _ _ _ _ _ hvv hi' hle2 hn' hh =>
      cases hμ : c.μ j with
      | none =>
        obtain ⟨rfl, rfl, rfl⟩ := hn' (by rw [θ_of hblk, hμ])
        by_cases hn0 : n = 0
        · subst hn0
          have hne : new = [] := List.eq_nil_of_length_eq_zero (by simpa using hnl)
          subst hne
          have R := run_zeros_none (P := P) (ty := o.type) (w := c.w) (k := k) (nn := nn) t0 t1 hs hu hi (by omega)
          have W := write_ok hr j _ ⟨ver + 1, true, .cells t' ((cs.drop 0).take (0 * i.size) ++ [])⟩ hblk rfl rfl none [] c.w ⟨by simp, fun h => by simp at h⟩ rfl rfl rfl (Nat.le_refl _)
            (fun x _ _ => rfl) (fun x hx => by
              rcases hx with ⟨l, h, _⟩ | h
              · cases h
              · cases h) (by simp) (fun _ => ⟨rfl, by simp, by simp⟩)
          exact ⟨_, _, rfl, W.1, W.2, OWN _ _ _ ⟨_, _, _, rfl, by omega⟩ (fun _ => ⟨rfl, rfl⟩) (fun p hp => by cases hp), .inl (run _ _ (by rw [hv, hvy]; exact R))⟩
        · exact GROW none 0 hv (by omega) (by omega) ⟨[], ⟨by simp, by simp, fun j x u hx => by simp at hx⟩, fun w' _ => by simp [Builtin.firstCells]⟩
      | some l =>
        obtain ⟨ad, cap, rfl, hcap, had, hfit⟩ := hh l (by rw [θ_of hblk, hμ])
        have hmx : cap ≤ 9223372036854775807 := by obtain ⟨_, _, _, h1, h2⟩ := hvv; cases h1; exact h2
        obtain ⟨vs, fr, g1, g2, g3, g4, g5, g6⟩ := blk_cells hr hblk hμ
        by_cases hroom : len + n ≤ cap
        · have hmul : (len + n) * i.size ≤ cap * i.size := Nat.mul_le_mul_right _ hroom
          rw [Nat.add_mul] at hmul
          have hscn : ∀ x ∈ (cs.drop off).take (len * i.size) ++ new, sc x = true := by
            intro x hx
            rcases List.mem_append.1 hx with hx | hx
            · exact g4 x (List.mem_of_mem_drop (List.mem_of_mem_take hx))
            · exact hcl2.sc x hx
          by_cases hcz : cap = 0
          · subst hcz
            have hl0 : len = 0 := by omega
            have hn0 : n = 0 := by omega
            subst hl0 hn0
            have hne : new = [] := List.eq_nil_of_length_eq_zero (by simpa using hnl)
            subst hne
            have R := run_zeros_fits (P := P) (ty := o.type) (w := c.w) (w' := c.w) (k := k) (nn := nn) (n := 0) (sLen := 0) (sCap := 0) t0 t1 hs hu hi hz' hzs (ad := ad) hnn hnm hb (by omega) (Nat.le_refl 0) (by simp [storeCells, Builtin.zeroCells])
            have W := write_cells hr hblk hμ g1 (ver + 1) (l.base + off) ((cs.drop off).take (0 * i.size) ++ []) vs ⟨by omega, fun h => by omega⟩ rfl (by simp; simp at hfit; exact hfit) (by omega) hscn (fun q x hx => by simp at hx)
            rw [setRow_self c.w l.b vs t' fr g1] at W
            exact ⟨_, _, rfl, W.1, W.2, OWN _ _ _ ⟨_, _, _, rfl, by omega⟩ (fun h => by cases h) (fun p hp => by cases hp; exact ⟨ad, 0, rfl, Nat.le_refl _, fun h => absurd rfl h, by simpa using hfit⟩), .inl (run _ _ (by rw [hv, hvy]; exact R))⟩
          · have had' := had hcz
            have hst := run_storeCells_fr (P := P) l.b (l.base + off + len * i.size) t' fr news 0 vs c.w g1 (by rw [hnl2]; omega) (fun q h3 h4 => g6 q (by omega) (by rw [hnl2] at h4; omega)) hcl2.one
            simp only [Nat.add_zero] at hst
            have R := run_zeros_fits (P := P) (ty := o.type) (w := c.w) (k := k) (nn := nn) t0 t1 hs hu hi hz' hzs (ad := ad) (sLen := len) (sCap := cap) hnn hnm hb hnb hroom (by rw [had', addr_add, hnews]; exact hst)
            rw [← hv, ← hvy] at R
            have hlenN : (vs.toList.take (l.base + off + len * i.size) ++ news ++ vs.toList.drop (l.base + off + len * i.size + news.length)).length = vs.size := by
              simp only [List.length_append, List.length_take, List.length_drop, Array.length_toList]; omega
            have W := write_cells hr hblk hμ g1 (ver + 1) (l.base + off) ((cs.drop off).take (len * i.size) ++ new)
              (vs.toList.take (l.base + off + len * i.size) ++ news ++ vs.toList.drop (l.base + off + len * i.size + news.length)).toArray
              ⟨by omega, fun h => by omega⟩ (by simpa using hlenN) (by rw [List.length_append, holdlen, hnl]; omega) (by omega) hscn (fun q x hx => by
                simp only [List.getElem?_toArray]
                by_cases hq : q < len * i.size
                · rw [List.getElem?_append_left (by rw [holdlen]; exact hq), List.getElem?_take, if_pos hq, List.getElem?_drop] at hx
                  obtain ⟨v, q1, q2⟩ := g5 _ x hx
                  refine ⟨v, ?_, q2⟩
                  rw [List.append_assoc, List.getElem?_append_left (by simp; omega), List.getElem?_take, if_pos (by omega), Array.getElem?_toList, Nat.add_assoc]
                  exact q1
                · rw [List.getElem?_append_right (by rw [holdlen]; omega), holdlen] at hx
                  have hql := getElem?_lt hx
                  have hql2 : q - len * i.size < news.length := by rw [← hcl2.len]; exact hql
                  refine ⟨news[q - len * i.size], ?_, hcl2.at_ _ x _ hx (List.getElem?_eq_getElem hql2)⟩
                  rw [List.append_assoc, List.getElem?_append_right (by simp; omega)]
                  have e2 : (vs.toList.take (l.base + off + len * i.size)).length = l.base + off + len * i.size := by simp; omega
                  rw [e2, List.getElem?_append_left (by omega)]
                  have e3 : l.base + off + q - (l.base + off + len * i.size) = q - len * i.size := by omega
                  rw [e3]
                  exact List.getElem?_eq_getElem hql2)
            exact ⟨_, _, rfl, W.1, W.2, OWN _ _ _ ⟨_, _, _, rfl, hmx⟩ (fun h => by cases h) (fun p hp => by cases hp; exact ⟨ad, cap, rfl, hroom, fun _ => had', hfit⟩), .inl (run _ _ R)⟩
        · refine GROW (some ad) cap hv (by omega) (by omega) (firstCells_own (b := l.b) (off := l.base + off) holdlen (fun h => had (by rintro rfl; simp at hcap; simp [hcap] at h)) (fun x hx => g4 x (List.mem_of_mem_drop (List.mem_of_mem_take hx))) (fun q x hx => ?_))
          rw [List.getElem?_take] at hx
          split at hx
          · rw [List.getElem?_drop] at hx
            obtain ⟨v, q1, q2⟩ := g5 _ x hx
            exact ⟨v, by rw [cell_heap g1, Nat.add_assoc]; exact q1, q2⟩
          · cases hx
    · trivial
  · rename_i j ver off len cap z'
    simp only
    split
    · rename_i t' cs hlc
      simp only [pushK, appK_eq, lenK_eq]
      rintro ⟨h0, hgt, hzz, htt, hfit0, hb, hle⟩
      obtain rfl : i.size = z' := hzz.symm
      obtain rfl : t' = e := htt
      have hblk := liveCells_some hlc
      have hnn : nn = n := by omega
      have hn9 : len + n ≤ 70368744177664 := Nat.le_trans (Nat.le_mul_of_pos_right _ hb) hle
      have holdlen : ((cs.drop off).take (len * i.size)).length = len * i.size := by simp; omega
      obtain ⟨base, hv, olds, hco, hold⟩ : ∃ base, a.eval x = .slice base len cap ∧ ∃ olds, CL c ((cs.drop off).take (len * i.size)) olds ∧ ∀ w' : World, w'.heap = c.w.heap → (Builtin.firstCells i.size len (.slice base len cap)).run P w' = .ok olds.toArray w' := by
        obtain ⟨hx1, hxc⟩ : VR c (.own j ver off len i.size) (a.eval x) ∧ ∃ a', a.eval x = .slice a' len cap := by cases hx with | ownC _ _ _ _ _ _ _ h1 h2 => exact ⟨h1, h2⟩
        obtain ⟨a', ha'⟩ := hxc
        refine ⟨a', ha', ?_⟩
        rcases own_at hx1 hblk with ⟨hμ, hv, rfl, rfl⟩ | ⟨l, ad, cap', hμ, hv, hcap, hmx, had, hfit⟩
        · rw [hv] at ha'
          cases ha'
          exact ⟨[], ⟨by simp, by simp, fun j x u hx => by simp at hx⟩, fun w' _ => by simp [Builtin.firstCells]⟩
        · rw [hv] at ha'
          cases ha'
          obtain ⟨vs, fr, g1, g2, g3, g4, g5, g6⟩ := blk_cells hr hblk hμ
          refine firstCells_own (b := l.b) (off := l.base + off) holdlen (fun h => had (by rintro rfl; simp at hcap; simp [hcap] at h)) (fun x hx => g4 x (List.mem_of_mem_drop (List.mem_of_mem_take hx))) (fun q x hx => ?_)
          rw [List.getElem?_take] at hx
          split at hx
          · rw [List.getElem?_drop] at hx
            obtain ⟨v, q1, q2⟩ := g5 _ x hx
            exact ⟨v, by rw [cell_heap g1, Nat.add_assoc]; exact q1, q2⟩
          · cases hx
      obtain ⟨cap2, ⟨hcap, hmx⟩, R⟩ := run_zeros_grow (P := P) (ty := o.type) (z := zv) t0 t1 hs hu hi hz' (base := base) (sLen := len) (sCap := cap) (n := n) (k := k) (nn := nn) (w := c.w) (old := olds) hnn (by omega) hpos (by omega) hold hgt hb hle
      rw [← hv, ← hvy] at R
      have hol : olds.length = len * i.size := by rw [← hco.len]; exact holdlen
      have hall := hco.append hcl2
      generalize hrow : (olds.toArray ++ Builtin.zeroCells zv.cells n ++ Builtin.zeroCells zv.cells (cap2 - (len + n))) = row at R
      have hrs : row.size = cap2 * i.size := by
        rw [← hrow]
        simp only [Array.size_append, List.size_toArray, size_zeroCells, hzs, hol, ← Nat.add_mul]
        congr 1; omega
      have A := alloc_ok hr t' ((cs.drop off).take (len * i.size) ++ new) row (0, 0) (by rw [hall.len, List.length_append, hol, hnl2, hrs, ← Nat.add_mul]; exact Nat.mul_le_mul_right _ hcap) hall.sc (fun q x hx => by
        have hq := getElem?_lt hx
        have hq2 : q < (olds ++ news).length := by rw [← hall.len]; exact hq
        refine ⟨(olds ++ news)[q], ?_, hall.at_ q x _ hx (List.getElem?_eq_getElem hq2)⟩
        have e9 : olds.toArray ++ Builtin.zeroCells zv.cells n = (olds ++ news).toArray := by rw [← hnews]; simp
        rw [← hrow, e9, Array.getElem?_append_left (by simpa using hq2), List.getElem?_toArray]
        exact List.getElem?_eq_getElem hq2) (fun q _ => by simp) (c.w.drawn + 1)
      exact ⟨_, _, rfl, A.1, A.2, own_new (cap := cap2) hmx hcap (by simp [hrs]), .inl (run _ _ R)⟩
    · trivial
end
end Ink

namespace Ink
open Go

section
variable {P : Program} {o : Oper} {a : Act} {c : Cx} {tm : List AV}

theorem ba_beq (a b : ByteArray) : (a == b) = decide (a.data.toList = b.data.toList) := by
  show (a.data == b.data) = _
  rw [Bool.eq_iff_iff]; simp

/-- what the type of keys is -/
def kindOf (str : Bool) : TypeDesc := if str then .string else .int .i64

theorem keyT_spec {t : TypeId} {s : Bool} (h : keyT P t = some s) : P.underlying t = some (kindOf s) := by
  unfold keyT at h
  split at h <;> first | (cases h; assumption) | cases h

/-- a key's value -/
theorem key_val {str : Bool} {k : AV} {v : Value} (h : VR c k v) (hk : keyOk str k = true) : (str = true ∧ ∃ l s, k = .str l ∧ v = .string s ∧ s.data.toList = l) ∨ (str = false ∧ ∃ n, k = .int .i64 n ∧ v = .int .i64 n) := by
  cases h <;> simp [keyOk] at hk
  · obtain ⟨h1, rfl⟩ := hk
    exact .inr ⟨h1, _, rfl, rfl⟩
  · rename_i l s hs
    exact .inl ⟨hk, _, _, rfl, rfl, hs⟩

theorem same_key {str : Bool} {k k' : AV} {v v' : Value} (h : VR c k v) (hk : keyOk str k = true) (h' : VR c k' v') (hk' : keyOk str k' = true) :
    Instr.sameNow (kindOf str) v v' = some (keyIs k k') ∧ (keyIs k k' = true → v' = v) := by
  rcases key_val h hk with ⟨rfl, l, s, rfl, rfl, e1⟩ | ⟨rfl, n, rfl, rfl⟩
  · rcases key_val h' hk' with ⟨_, l', s', rfl, rfl, e2⟩ | ⟨h0, _⟩
    · subst e1 e2
      refine ⟨?_, fun h => ?_⟩
      · simp only [Instr.sameNow, kindOf, if_true, keyIs, ba_beq]
        congr 1
        rw [decide_eq_decide]
        exact ⟨Eq.symm, Eq.symm⟩
      · simp only [keyIs, decide_eq_true_eq] at h
        congr 1
        exact ByteArray.ext (Array.toList_inj.1 h)
    · cases h0
  · rcases key_val h' hk' with ⟨h0, _⟩ | ⟨_, n', rfl, rfl⟩
    · cases h0
    · refine ⟨?_, fun h => ?_⟩
      · simp only [Instr.sameNow, kindOf, keyIs, BEq.beq, Bool.false_eq_true, if_false]
        simp only [if_true, Option.some.injEq]
        rw [decide_eq_decide]
        exact ⟨Eq.symm, Eq.symm⟩
      · simp only [keyIs, decide_eq_true_eq] at h
        rw [h]

theorem check_key {str : Bool} {k : AV} {v : Value} (h : VR c k v) (hk : keyOk str k = true) {kt : TypeId} (hkt : P.underlying kt = some (kindOf str)) (e : Bool) (w : World) : (Instr.checkKey e 10000 kt v).run P w = .ok () w := by
  rcases key_val h hk with ⟨rfl, l, s, rfl, rfl, _⟩ | ⟨rfl, n, rfl, rfl⟩
  · exact MapKept.run_checkKey (n := 9999) hkt (show MapKept.IsKey .string (.string s) from trivial) e
  · exact MapKept.run_checkKey (n := 9999) hkt (show MapKept.IsKey (.int .i64) (.int .i64 n) from rfl) e

theorem stays_key {str : Bool} {k : AV} {v : Value} (h : VR c k v) (hk : keyOk str k = true) (w : World) : (Instr.keyThatStays v v).run P w = .ok v w := by
  have h1 : ∀ n s, Instr.sameBits n (.string s) (.string s) = true := fun n s => by cases n <;> simp [Instr.sameBits, ba_beq]
  have h2 : ∀ n (m : Int), Instr.sameBits n (.int .i64 m) (.int .i64 m) = true := fun n m => by cases n <;> simp [Instr.sameBits]
  rcases key_val h hk with ⟨rfl, l, s, rfl, rfl, _⟩ | ⟨rfl, n, rfl, rfl⟩
  · unfold Instr.keyThatStays
    rw [if_pos (h1 _ _)]; rfl
  · unfold Instr.keyThatStays
    rw [if_pos (h2 _ _)]; rfl

/-- entries -/
structure ER (c : Cx) (kv : List (AV × AV)) (es : List MapEntry) : Prop where
  len : kv.length = es.length
  at_ : ∀ (j : Nat) (x : AV × AV) (e : MapEntry), kv[j]? = some x → es[j]? = some e → VR c x.1 e.key ∧ VR c x.2 e.val

theorem ER.tail {x : AV × AV} {kv : List (AV × AV)} {e : MapEntry} {es : List MapEntry} (h : ER c (x :: kv) (e :: es)) : ER c kv es :=
  ⟨by have := h.len; simpa using this, fun j y f hy hf => h.at_ (j + 1) y f (by simpa using hy) (by simpa using hf)⟩

theorem find_ok {str : Bool} {k : AV} {v : Value} (h : VR c k v) (hk : keyOk str k = true) : ∀ {kv : List (AV × AV)} {es : List MapEntry}, ER c kv es → (∀ e ∈ kv, keyOk str e.1 = true) → ∀ n,
    (findKV kv k = none ∧ Instr.findNow (kindOf str) v es n = some none ∧ ∀ x, setKV kv k x = kv ++ [(k, x)]) ∨
    ∃ i u e av, findKV kv k = some av ∧ Instr.findNow (kindOf str) v es n = some (some (n + i, u)) ∧ VR c av u ∧ es[i]? = some e ∧ e.key = v ∧ i < kv.length ∧ ∀ x, setKV kv k x = kv.set i (k, x)
  | [], [], _, _, n => .inl ⟨rfl, rfl, fun _ => rfl⟩
  | [], _ :: _, he, _, _ => by have := he.len; simp at this
  | _ :: _, [], he, _, _ => by have := he.len; simp at this
  | x :: kv, e :: es, he, hks, n => by
    obtain ⟨h1, h2⟩ := he.at_ 0 x e rfl rfl
    obtain ⟨s1, s2⟩ := same_key h hk h1 (hks x (by simp))
    cases hb : keyIs k x.1 with
    | true =>
      refine .inr ⟨0, e.val, e, x.2, by simp [findKV, hb], ?_, h2, rfl, s2 hb, by simp, fun y => by simp [setKV, hb]⟩
      simp only [Instr.findNow, s1, hb]
      rfl
    | false =>
      have hf : ∀ m, Instr.findNow (kindOf str) v (e :: es) m = Instr.findNow (kindOf str) v es (m + 1) := fun m => by
        simp only [Instr.findNow, s1, hb]
      rcases find_ok h hk he.tail (fun y hy => hks y (by simp [hy])) (n + 1) with ⟨g1, g2, g3⟩ | ⟨i, u, e', av, g1, g2, g3, g4, g5, g6, g7⟩
      · exact .inl ⟨by simp [findKV, hb, g1], by rw [hf, g2], fun y => by simp [setKV, hb, g3]⟩
      · refine .inr ⟨i + 1, u, e', av, by simp [findKV, hb, g1], ?_, g3, by simpa using g4, g5, by simpa using g6, fun y => by simp [setKV, hb, g7]⟩
        rw [hf, g2]
        congr 3
        omega

theorem liveMap_some {H : List Blk} {i ver : Nat} {kv : List (AV × AV)} (h : liveMap H i ver = some kv) : H[i]? = some ⟨ver, true, .map kv⟩ := by
  unfold liveMap at h
  rw [getK_eq] at h
  split at h
  · rename_i v kv' heq
    split at h
    · rename_i hb
      have := Nat.eq_of_beq_eq_true hb
      cases h; subst this; exact heq
    · cases h
  · cases h

/-- a map's value -/
theorem map_at (hr : HR c) {i ver : Nat} {v : Value} {kv : List (AV × AV)} (hx : VR c (.map i ver) v) (hk : c.H[i]? = some ⟨ver, true, .map kv⟩) :
    ∃ l es clk, c.μ i = some l ∧ v = .map (some l.b) ∧ c.w.heap[l.b]? = some (.map es clk) ∧ ER c kv es.toList ∧ ∀ (j : Nat) (e : MapEntry), es[j]? = some e → e.born < clk := by
  have hb := hr.blk i _ hk rfl
  cases hx with
  | map _ _ _ hv hi hle hn h =>
    cases hμ : c.μ i with
    | none =>
      rw [hμ] at hb
      exact hb.2.2.elim
    | some l =>
      rw [hμ] at hb
      obtain ⟨_, _, es, clk, g1, g2, g3, g4⟩ := hb
      exact ⟨l, es, clk, rfl, h l (by rw [θ_of hk, hμ]), g1, ⟨by simp [g2], fun j x e hx he => g3 j x e hx (by rwa [Array.getElem?_toList] at he)⟩, g4⟩

theorem snd_makeMap (hr : HR c) {t : TypeId} (ho : o.op = .makeMap t none) : ResOk P o a c (xRes .makeMap [] c.H) := by
  simp only [xRes, pushK, appK_eq, lenK_eq]
  have A := push_ok hr (.map []) (some ⟨c.w.heap.size, 0, 0⟩) { c.w with heap := c.w.heap.push (.map #[] 0) } rfl rfl rfl (by simp)
    (fun x hx => by simp only [Array.getElem?_push]; rw [if_neg (by omega)]) (fun l hl => by cases hl; simp) (fun _ => by
      refine ⟨rfl, fun x hx => by simp at hx, #[], 0, ?_, rfl, fun j x e hx => by simp at hx, fun j e he => by simp at he⟩
      show (c.w.heap.push _)[c.w.heap.size]? = _
      exact Array.getElem?_push_size)
  refine ⟨.map (some c.w.heap.size), _, rfl, A.1, A.2, ?_, .inl ?_⟩
  · refine .map _ _ _ ⟨_, rfl⟩ (by simp [Cx.push]) (fun _ _ _ => Nat.zero_le _) (fun h => ?_) (fun l hl => ?_)
    · rw [push_θn] at h; cases h
    · rw [push_θn] at hl; cases hl; rfl
  · simp [execOp, ho, Instr.makeMap, Cx.push]

theorem snd_lookup (hr : HR c) (ht : TR c tm a.tmps) {t kt e : TypeId} {x y : Operand} {ok : Bool} (ho : o.op = .lookup t x y ok) (hs : P.underlying t = some (.map kt e)) {str : Bool} (hkt : keyT P kt = some str)
    {inf : TypeInfo} (hi : P.info? e = some inf) {z : Value} (hz : inf.zero = some z) : ResOk P o a c (xRes (.lookup str ok (liftV z)) [(cOpd x).ev tm, (cOpd y).ev tm] c.H) := by
  have hx := ev_ok ht x
  have hy := ev_ok ht y
  have hkind := keyT_spec hkt
  have hzr : (zeroValue e).run P c.w = .ok z c.w := by simp [zeroValue, typeInfo, hi, hz]
  generalize (cOpd x).ev tm = vx at hx
  generalize (cOpd y).ev tm = vy at hy
  simp only [xRes]
  cases vx <;> first | trivial | skip
  rename_i i ver
  simp only
  split
  · rename_i kv hlm
    have hb := liveMap_some hlm
    -- the run
    have R : keysOk str kv vy → ∃ v, VR c (lookV kv vy (liftV z)) v ∧ (execOp a.eval o).run P c.w = .ok (.value (if ok then .tuple #[v, .bool (hasK kv vy)] else v)) c.w := by
      rintro ⟨h1, h2⟩
      generalize hv : a.eval x = v at hx
      have hck := fun em => check_key (P := P) hy h1 hkind em c.w
      obtain ⟨l, es, clk, hμ, rfl, g1, g2, g3⟩ := map_at hr hx hb
      · have hgo := run_getObj_map (P := P) c.w l.b es clk g1
        rcases find_ok hy h1 g2 h2 0 with ⟨q1, q2, _⟩ | ⟨j, u, en, av, q1, q2, q3, _⟩
        · refine ⟨z, by simp only [lookV, q1]; exact liftV_ok c z, ?_⟩
          cases ok <;> simp [execOp, ho, hv, Instr.lookup, run_underlying hs, hck, hgo, Instr.findKey, run_underlying hkind, q2, hzr, hasK, q1]
        · refine ⟨u, by simp only [lookV, q1]; exact q3, ?_⟩
          cases ok <;> simp [execOp, ho, hv, Instr.lookup, run_underlying hs, hck, hgo, Instr.findKey, run_underlying hkind, q2, hasK, q1]
    split
    · intro h
      obtain ⟨v, h1, h2⟩ := R h
      exact pureOp hr h2 h1
    · intro h
      obtain ⟨v, h1, h2⟩ := R h
      refine pureOp hr h2 (.tup _ _ rfl (fun j x u hx hu => ?_))
      match j, hx, hu with
      | 0, hx, hu => cases hx; cases hu; exact h1
      | 1, hx, hu => cases hx; cases hu; exact .bool _
  · trivial

theorem snd_mapUpdate (hr : HR c) (ht : TR c tm a.tmps) {t kt e : TypeId} {x y z : Operand} (ho : o.op = .mapUpdate t x y z) (hs : P.underlying t = some (.map kt e)) {str : Bool} (hkt : keyT P kt = some str) :
    ResOk P o a c (xRes (.mapUpdate str) [(cOpd x).ev tm, (cOpd y).ev tm, (cOpd z).ev tm] c.H) := by
  have hx := ev_ok ht x
  have hy := ev_ok ht y
  have hz := ev_ok ht z
  have hkind := keyT_spec hkt
  generalize (cOpd x).ev tm = vx at hx
  generalize (cOpd y).ev tm = vy at hy
  generalize (cOpd z).ev tm = vz at hz
  simp only [xRes]
  cases vx <;> first | trivial | skip
  rename_i i ver
  simp only
  split
  · rename_i kv hlm
    have hb := liveMap_some hlm
    rw [setK_eq]
    rintro ⟨h1, h2⟩
    generalize hv : a.eval x = v at hx
    have hck := check_key (P := P) hy h1 hkind false c.w
    obtain ⟨l, es, clk, hμ, rfl, g1, g2, g3⟩ := map_at hr hx hb
    have hgo := run_getObj_map (P := P) c.w l.b es clk g1
    have hso := fun o' => MapKept.run_setObj_map (P := P) o' g1
    have hlb : l.b < c.w.heap.size := hr.lt i l.b (live_of hb rfl) (.inl ⟨l, hμ, rfl⟩)
    have hes : es.size = kv.length := by rw [g2.len]; simp
    -- the state behind it
    have fin : ∀ (kv' : List (AV × AV)) (es' : Array MapEntry) (clk' : Nat), es'.size = kv'.length → (∀ (j : Nat) (x : AV × AV) (e : MapEntry), kv'[j]? = some x → es'[j]? = some e → VR c x.1 e.key ∧ VR c x.2 e.val) →
        (∀ (j : Nat) (e : MapEntry), es'[j]? = some e → e.born < clk') → setKV kv vy vz = kv' →
        (Instr.mapUpdate t (.map (some l.b)) (a.eval y) (a.eval z)).run P c.w = .ok () { c.w with heap := c.w.heap.setIfInBounds l.b (.map es' clk') } →
        OpOk P o a c .top (c.H.set i ⟨ver, true, .map (setKV kv vy vz)⟩) := by
      intro kv' es' clk' k1 k2 k3 k4 k5
      have W := write_ok hr i _ ⟨ver, true, .map (setKV kv vy vz)⟩ hb rfl rfl (some l) [] { c.w with heap := c.w.heap.setIfInBounds l.b (.map es' clk') } ⟨Nat.le_refl _, fun _ => hμ⟩ rfl rfl rfl (by simp)
        (fun x _ hx => by
          simp only [Array.getElem?_setIfInBounds]
          rw [if_neg (fun e => hx (.inl ⟨l, hμ, e⟩))])
        (fun x hx => by
          rcases hx with ⟨l', h, rfl⟩ | h
          · cases h; exact ⟨.inl (.inl ⟨l, hμ, rfl⟩), by simpa using hlb⟩
          · cases h) (by simp) (fun ex => by
          refine ⟨rfl, fun x _ => rfl, es', clk', ?_, by rw [k4]; exact k1, fun j x e hx he => ?_, k3⟩
          · simp [Cx.upd, hlb]
          · rw [k4] at hx
            obtain ⟨m1, m2⟩ := k2 j x e hx he
            exact ⟨m1.ext ex, m2.ext ex⟩)
      exact ⟨undef, _, rfl, W.1, W.2, .top _, .inr ⟨by simp [execOp, ho, hv, k5, Cx.upd], rfl⟩⟩
    rcases find_ok hy h1 g2 h2 0 with ⟨q1, q2, q3⟩ | ⟨j, u, en, av, q1, q2, q3, q4, q5, q6, q7⟩
    · refine fin (kv ++ [(vy, vz)]) (es.push { key := a.eval y, val := a.eval z, born := clk }) (clk + 1) (by simp [hes]) (fun j x e hx he => ?_) (fun j e he => ?_) (q3 _) ?_
      · by_cases hj : j < kv.length
        · rw [List.getElem?_append_left hj] at hx
          rw [Array.getElem?_push_lt (by omega), ← Array.getElem?_eq_getElem] at he
          exact g2.at_ j x e hx (by rwa [Array.getElem?_toList])
        · have hjl : j = kv.length := by have := getElem?_lt hx; simp at this; omega
          subst hjl
          rw [← hes, Array.getElem?_push_size] at he
          simp at hx
          cases he; subst hx
          exact ⟨hy, hz⟩
      · by_cases hj : j < es.size
        · rw [Array.getElem?_push_lt hj, ← Array.getElem?_eq_getElem] at he
          exact Nat.lt_succ_of_lt (g3 j e he)
        · have hjl : j = es.size := by
            rcases Nat.lt_or_ge j (es.size + 1) with h | h
            · omega
            · rw [Array.getElem?_eq_none (by simpa using h)] at he; cases he
          subst hjl
          rw [Array.getElem?_push_size] at he
          cases he
          exact Nat.lt_succ_self _
      · simp [Instr.mapUpdate, run_underlying hs, hgo, hck, Instr.findKey, run_underlying hkind, q2, hso]
    · have hje : j < es.size := by omega
      have hst := stays_key (P := P) hy h1 c.w
      have q4' : es[j]? = some en := by rwa [Array.getElem?_toList] at q4
      refine fin (kv.set j (vy, vz)) (es.modify j fun e => { e with key := a.eval y, val := a.eval z }) clk (by simp [hes]) (fun k x e hx he => ?_) (fun k e he => ?_) (q7 _) ?_
      · rw [List.getElem?_set] at hx
        rw [Array.getElem?_modify] at he
        split at hx
        · rename_i hjk
          subst hjk
          rw [if_pos rfl, q4'] at he
          cases hx; cases he
          exact ⟨hy, hz⟩
        · rename_i hjk
          rw [if_neg hjk] at he
          exact g2.at_ k x e hx (by rwa [Array.getElem?_toList])
      · rw [Array.getElem?_modify] at he
        split at he
        · rename_i hjk
          subst hjk
          rw [q4'] at he
          cases he
          exact g3 j en q4'
        · exact g3 k e he
      · simp [Instr.mapUpdate, run_underlying hs, hgo, hck, Instr.findKey, run_underlying hkind, q2, hso, q4', q5, hst]
  · trivial
theorem snd_mlen (hr : HR c) (ht : TR c tm a.tmps) {cl : Call} (ho : o.op = .call cl) (hcl : cl.callee = .builtin .len) {x : Operand} (hargs : cl.args.toList = [x]) {t k e : TypeId} (hts : cl.argTypes.toList = [t])
    (hs : P.underlying t = some (.map k e)) : ResOk P o a c (xRes .mlen [(cOpd x).ev tm] c.H) := by
  have hx := ev_ok ht x
  have hargs' : cl.args = #[x] := by cases hc : cl.args; simp [hc] at hargs; simp [hargs]
  have ht0 : cl.argTypes[0]? = some t := by rw [← Array.getElem?_toList, hts]; rfl
  have run : ∀ r w', (Builtin.len_ cl.argTypes o.type #[a.eval x]).run P c.w = .ok r w' → (execOp a.eval o).run P c.w = .ok (.value r) w' := by
    intro r w' h
    simp [execOp, ho, resolve, hcl, invoke, builtin, hargs', h]
  generalize (cOpd x).ev tm = vx at hx
  simp only [xRes]
  cases vx <;> first | trivial | skip
  rename_i i ver
  simp only
  split
  · rename_i kv hlm
    have hb := liveMap_some hlm
    intro hlen
    generalize hv : a.eval x = v at hx
    obtain ⟨l, es, clk, hμ, rfl, g1, g2, g3⟩ := map_at hr hx hb
    have hgo := run_getObj_map (P := P) c.w l.b es clk g1
    have hes : es.size = kv.length := by rw [g2.len]; simp
    exact pureOp hr (run _ _ (by simp [Builtin.len_, ht0, run_underlying hs, hv, hgo, goInt, hes])) (.int _ _ (IK_i64.2 ⟨by omega, by omega⟩))
  · trivial

theorem cOpX_sound {k : XK} {l : List AOpd} (h : cOpX P o = some (k, l)) (hr : HR c) (ht : TR c tm a.tmps) : ResOk P o a c (opRes tm c.H (.xop k l)) := by
  unfold cOpX at h
  simp only [opRes]
  split at h
  · cases h; trivial
  · cases h; trivial
  · cases h; exact snd_makeMap hr (by assumption)
  · rename_i ho
    split at h
    · rename_i hs
      split at h
      · rename_i hk hi
        split at h
        · rename_i hz
          cases h
          exact snd_lookup hr ht ho hs hk hi hz
        · cases h
      · cases h
    · cases h
  · rename_i ho
    split at h
    · rename_i hs
      split at h
      · rename_i hk
        cases h
        exact snd_mapUpdate hr ht ho hs hk
      · cases h
    · cases h
  · rename_i cl ho
    split at h
    · rename_i hcl
      split at h
      · rename_i hx hts
        split at h
        · rename_i hs
          cases h
          exact snd_cap hr ht ho hcl hx hts hs
        · cases h
      · cases h
    · rename_i hcl
      split at h
      · rename_i hx hts
        split at h
        · rename_i hs
          split at h
          · rename_i hn hz
            split at h
            · rename_i hb
              cases h
              simp only [Bool.and_eq_true] at hb
              exact snd_clear hr ht ho hcl hx hts hs hn hz (Nat.eq_of_beq_eq_true hb.1) (by simpa using hb.2)
            · cases h
          · cases h
        · cases h
      · cases h
    · rename_i hcl
      split at h
      · rename_i hx hts
        split at h
        · rename_i hs
          split at h
          · rename_i hn
            cases h
            exact snd_copy hr ht ho hcl hx hts hs hn
          · cases h
        · cases h
      · cases h
    · rename_i hcl
      split at h
      · rename_i hx hts
        split at h
        · rename_i hs
          cases h
          exact snd_mlen hr ht ho hcl hx hts hs
        · cases h
      · cases h
    · rename_i hcl
      split at h
      · rename_i hx hts
        split at h
        · rename_i hs hu
          split at h
          · rename_i hi hz
            split at h
            · rename_i hb
              cases h
              simp only [Bool.and_eq_true] at hb
              exact snd_appendZ hr ht ho hcl hx hts hs hu hi hz (Nat.eq_of_beq_eq_true hb.1) (by simpa using hb.2)
            · cases h
          · cases h
        · cases h
      · cases h
    · cases h
  · cases h
end
end Ink

namespace Ink
open Go

section
variable {P : Program} {o : Oper} {a : Act} {c : Cx} {tm : List AV}

theorem bld_zero {t T e : TypeId} (h : bldOf P t = some (T, e)) : T = t := bldOf_spec h

theorem cOp0_sound {mt : Tmp → Bool} {ao : AOp} (h : cOp0 P mt o = some ao) (hr : HR c) (ht : TR c tm a.tmps) : ResOk P o a c (opRes tm c.H ao) := by
  unfold cOp0 at h
  split at h
  · cases h; exact snd_move hr ht (.inl (by assumption))
  · cases h; exact snd_move hr ht (.inr (by assumption))
  · cases h; exact snd_pick hr ht (by assumption)
  · -- alloc
    rename_i t ho
    split at h
    · rename_i T e hb
      split at h
      · rename_i hz
        cases h
        have := bld_zero hb
        subst this
        exact snd_bld hr ho hz
      · cases h
    · simp only [Option.map_eq_some_iff] at h
      obtain ⟨z, hz, rfl⟩ := h
      exact snd_alloc hr ho hz
  · cases h; exact snd_box hr ht (by assumption)
  · -- build
    rename_i t parts ho
    cases hz : zeroC P t with
    | none => simp [hz] at h
    | some z =>
      simp only [hz, Option.bind_eq_bind, Option.bind_some] at h
      split at h
      · rename_i fs hs
        split at h
        · cases h
        · rename_i hfs
          split at h
          · rename_i ps hp
            cases h
            exact snd_buildStruct hr ht ho hz hs hp hfs
          · cases h
      · rename_i m e hs
        split at h
        · rename_i n hn
          simp only [Option.map_eq_some_iff] at h
          obtain ⟨ps, hp, rfl⟩ := h
          exact snd_buildArray hr ht ho hz hs hn hp
        · cases h
      · cases h
  · -- buildSlice
    rename_i t len parts ho
    split at h
    · rename_i e hs
      split at h
      · rename_i n z hn hz
        split at h
        · rename_i hle
          cases h
          exact snd_buildSlice hr ht ho hs hn hz hle _
        · cases h
      · cases h
    · cases h
  · -- load
    simp only [Option.map_eq_some_iff] at h
    obtain ⟨n, hn, rfl⟩ := h
    exact snd_load hr ht (by assumption) hn
  · simp only [Option.map_eq_some_iff] at h
    obtain ⟨n, hn, rfl⟩ := h
    exact snd_store hr ht (by assumption) hn
  · cases h; exact snd_nilCheck hr ht (by assumption)
  · cases h
    rename_i ho
    simp only [opRes]
    exact bin_ok hr ho (ev_ok ht _) (ev_ok ht _) _
  · cases h; exact snd_un hr ht (by assumption) _
  · -- convert
    rename_i s d x ho
    split at h
    · cases h; exact snd_convInt hr ht ho (by assumption) (by assumption)
    · cases h; exact snd_convSame hr ht ho (by assumption) (by assumption)
    · split at h
      · split at h
        · cases h; exact snd_toBytes hr ht ho (by assumption) (by assumption) (by assumption) (by assumption)
        · cases h
      · cases h
    · split at h
      · cases h; exact snd_ofBytes hr ht ho (by assumption) (by assumption) (by assumption)
      · cases h
    · cases h
  · -- makeInterface
    rename_i t x ho
    split at h
    · cases h
    · rename_i u hne hu
      cases h
      exact snd_mkIface hr ht ho hu (fun m hm => hne m (by rw [hm]))
    · cases h
  · cases h; exact snd_mkFunc hr ht (by assumption)
  · simp only [Option.map_eq_some_iff] at h
    obtain ⟨k, hk, rfl⟩ := h
    exact snd_slice hr ht (by assumption) hk
  · -- fieldAddr
    split at h
    · split at h
      · split at h
        · cases h; exact snd_fieldAddr hr ht (by assumption) (by assumption) (by assumption) (by assumption)
        · cases h
      · cases h
    · cases h
  · -- field
    split at h
    · split at h
      · simp only [Option.map_eq_some_iff] at h
        obtain ⟨n, hn, rfl⟩ := h
        exact snd_field hr ht (by assumption) (by assumption) (by assumption) hn
      · cases h
    · cases h
  · -- indexAddr
    split at h
    · simp only [Option.map_eq_some_iff] at h
      obtain ⟨n, hn, rfl⟩ := h
      exact snd_indexSlice hr ht (by assumption) (by assumption) hn
    · simp only [Option.map_eq_some_iff] at h
      obtain ⟨n, hn, rfl⟩ := h
      exact snd_indexArrPtr hr ht (by assumption) (by assumption) hn
    · cases h
  · -- index
    split at h
    · cases h; exact snd_indexStr hr ht (by assumption) (by assumption)
    · split at h
      · rename_i m hm
        cases h
        exact snd_indexArr (n := some m) hr ht (by assumption) (by assumption) hm (fun h => by cases h)
      · rename_i hm
        split at h
        · rename_i h1
          cases h
          exact snd_indexArr (n := none) hr ht (by assumption) (by assumption) hm (fun _ => h1)
        · cases h
      · cases h
    · cases h
  · cases h; exact snd_extract hr ht (by assumption)
  · -- makeSlice
    split at h
    · split at h
      · cases h; exact snd_makeSlice hr ht (by assumption) (by assumption) (by assumption) (by assumption)
      · cases h
    · cases h
  · -- calls
    rename_i cl ho
    split at h
    · cases h; trivial
    · rename_i hcl
      split at h
      · rename_i x t ts hx hts
        simp only [Option.map_eq_some_iff] at h
        obtain ⟨k, hk, rfl⟩ := h
        exact snd_len hr ht ho hcl hx hts hk
      · cases h
    · rename_i hcl; cases h; exact snd_minmax hr ht ho false (by simpa using hcl)
    · rename_i hcl; cases h; exact snd_minmax hr ht ho true (by simpa using hcl)
    · rename_i hcl
      split at h
      · rename_i s x t u hx hts
        split at h
        · cases h
        · rename_i e ud hnu hs hu
          split at h
          · rename_i i z hi hz
            split at h
            · rename_i hzl
              cases h
              exact snd_append hr ht ho hcl hx hts hs hu (fun k hk => hnu k hk) hi hz (Nat.eq_of_beq_eq_true hzl)
            · cases h
          · cases h
        · cases h
      · cases h
    · cases h
  · cases h
theorem cOp_sound {mt : Tmp → Bool} {ao : AOp} (h : cOp P mt o = some ao) (hr : HR c) (ht : TR c tm a.tmps) : ResOk P o a c (opRes tm c.H ao) := by
  unfold cOp at h
  split at h
  · rename_i ao' h0
    split at h
    · cases h
    · cases h
      exact cOp0_sound h0 hr ht
  · split at h
    · rename_i k l h0
      cases h
      exact cOpX_sound h0 hr ht
    · cases h
end
end Ink

namespace Ink
open Go

structure Env where
  P : Program
  N : Nat
  G : Nat → Option Obj

/-- the package-level variables are as they were -/
structure GOk (E : Env) (c : Cx) : Prop where
  le : E.N ≤ c.w.heap.size
  at_ : ∀ x, x < E.N → c.w.heap[x]? = E.G x ∧ ¬ c.O x

theorem GOk.ext {E : Env} {c d : Cx} (h : GOk E c) (e : Ext c d) : GOk E d where
  le := Nat.le_trans h.le e.size
  at_ := fun x hx => ⟨by rw [e.same x (Nat.lt_of_lt_of_le hx h.le) (h.at_ x hx).2]; exact (h.at_ x hx).1, fun ho => (e.own x ho).elim (h.at_ x hx).2 (fun h' => by have := h.le; omega)⟩

theorem LR.ext {c d : Cx} (e : Ext c d) {l vs} (h : LR c l vs) : LR d l vs := ⟨h.len, fun j x v hx hv => (h.at_ j x v hx hv).ext e⟩

theorem LR.append {c : Cx} {l m : List AV} {vs us : List Value} (h : LR c l vs) (k : LR c m us) : LR c (l ++ m) (vs ++ us) := by
  refine ⟨by simp [h.len, k.len], fun j x u hx hu => ?_⟩
  have := h.len
  by_cases hj : j < l.length
  · rw [List.getElem?_append_left hj] at hx
    rw [List.getElem?_append_left (by omega)] at hu
    exact h.at_ j x u hx hu
  · rw [List.getElem?_append_right (by omega)] at hx
    rw [List.getElem?_append_right (by omega)] at hu
    rw [this] at hx
    exact k.at_ _ x u hx hu

/-- a function is called: it has a body, or the model answers for it -/
def Invokes (P : Program) (f : FuncId) (vs : Array Value) (w : World) (R : Value → World → Prop) : Prop :=
  ((∀ w, (callFunc f vs).run P w = .ok (.enter f vs) w) ∧ Calls P f vs w fun e w' => ∃ v, e = .returned v ∧ R v w') ∨
  ∃ v w', (callFunc f vs).run P w = .ok (.value v) w' ∧ R v w'

theorem Invokes.mono {P : Program} {f : FuncId} {vs : Array Value} {w : World} {R R' : Value → World → Prop} (h : Invokes P f vs w R) (hr : ∀ v w', R v w' → R' v w') : Invokes P f vs w R' := by
  rcases h with ⟨h1, h2⟩ | ⟨v, w', h1, h2⟩
  · exact .inl ⟨h1, h2.mono fun e w' ⟨v, he, hv⟩ => ⟨v, he, hr v w' hv⟩⟩
  · exact .inr ⟨v, w', h1, hr v w' h2⟩

/-- A CONTRACT: whatever the memory, where it holds H and the arguments read as they do. -/
@[irreducible] def ACalls (E : Env) (f : FuncId) (args : List AV) (H : List Blk) (Q : AV → List Blk → Prop) : Prop :=
  ∀ (c : Cx) (vs : List Value), c.H = H → HR c → GOk E c → LR c args vs →
    Invokes E.P f vs.toArray c.w fun v w' => ∃ d r, d.w = w' ∧ HR d ∧ Ext c d ∧ VR d r v ∧ Q r d.H

theorem ACalls.mono {E : Env} {f : FuncId} {args : List AV} {H : List Blk} {Q Q' : AV → List Blk → Prop} (h : ACalls E f args H Q) (hq : ∀ r H', Q r H' → Q' r H') : ACalls E f args H Q' := by
  unfold ACalls at *
  intro c vs h1 h2 h3 h4
  exact (h c vs h1 h2 h3 h4).mono fun v w' ⟨d, r, e1, e2, e3, e4, e5⟩ => ⟨d, r, e1, e2, e3, e4, hq _ _ e5⟩

structure St where
  tm : List AV
  H : List Blk

/-- where the run of a function stands -/
structure Sim (E : Env) (c0 : Cx) (s : St) (c : Cx) (a : Act) : Prop where
  H : c.H = s.H
  hr : HR c
  tr : TR c s.tm a.tmps
  ext : Ext c0 c
  g : GOk E c
  defers : a.defers = []

/-- the same place, known less of, or known otherwise: n0 blocks came in -/
@[irreducible] def Wk (E : Env) (n0 : List Blk) (s : St) (s' : St) : Prop :=
  ∀ (c0 c : Cx) (a : Act), (c0.H = n0 ∧ HR c0) → Sim E c0 s c a → ∃ c', c'.w = c.w ∧ Sim E c0 s' c' a

theorem Wk.refl {E : Env} {n0 : List Blk} (s : St) : Wk E n0 s s := by
  unfold Wk
  intro c0 c a _ h
  exact ⟨c, rfl, h⟩

theorem Wk.trans {E : Env} {n0 : List Blk} {s t u : St} (h : Wk E n0 s t) (k : Wk E n0 t u) : Wk E n0 s u := by
  unfold Wk at *
  intro c0 c a hn hs
  obtain ⟨c1, h1, h2⟩ := h c0 c a hn hs
  obtain ⟨c2, k1, k2⟩ := k c0 c1 a hn h2
  exact ⟨c2, k1.trans h1, k2⟩

/-- the same place and values, known less of, or known otherwise -/
@[irreducible] def WkL (E : Env) (n0 : List Blk) (s : St) (l : List AV) (s' : St) (l' : List AV) : Prop :=
  ∀ (c0 c : Cx) (a : Act) (vs : List Value), (c0.H = n0 ∧ HR c0) → Sim E c0 s c a → LR c l vs → ∃ c', c'.w = c.w ∧ Sim E c0 s' c' a ∧ LR c' l' vs

theorem WkL.refl {E : Env} {n0 : List Blk} (s : St) (l : List AV) : WkL E n0 s l s l := by
  unfold WkL
  intro c0 c a vs _ h h'
  exact ⟨c, rfl, h, h'⟩

/-- a call outside of regions that draw -/
@[irreducible] def CallG (E : Env) (n0 : List Blk) (fv : AV) (args : List AV) (s : St) (K : AV → St → Prop) : Prop :=
  ∃ f first cap s1 l1, fv = .fn (.func f) first cap ∧ WkL E n0 s (first ++ args ++ cap) s1 l1 ∧ ACalls E f l1 s1.H fun r H' => K r ⟨s1.tm, H'⟩

/-- a call that changes nothing -/
@[irreducible] def CallQ (E : Env) (fv : AV) (args : List AV) (s : St) (K : AV → St → Prop) : Prop :=
  ∃ f first cap r, fv = .fn (.func f) first cap ∧ (∀ X, ACalls E f (first ++ args ++ cap) (s.H ++ X) fun r' H' => r' = r ∧ H' = s.H ++ X) ∧ K r s

/-- a call in a region that draws, whose outcome is one -/
@[irreducible] def CallD (E : Env) (fv : AV) (args : List AV) (s : St) (K : AV → St → Prop) : Prop :=
  ∃ f first cap r H1, fv = .fn (.func f) first cap ∧ ACalls E f (first ++ args ++ cap) s.H (fun r' H' => r' = r ∧ H' = H1) ∧ K r ⟨s.tm, H1⟩

/-- a call that needs no memory, and leaves it as it was -/
@[irreducible] def CallP (E : Env) (fv : AV) (args : List AV) (s : St) (K : AV → St → Prop) : Prop :=
  ∃ f first cap r, fv = .fn (.func f) first cap ∧ (∀ H, ACalls E f (first ++ args ++ cap) H fun r' H' => r' = r ∧ H' = H) ∧ K r s

/-- forced -/
def fv {β : Type} (v : AV) (K : AV → β) : β :=
  match v with
  | .int k n => K (.int k n)
  | .bool b => K (.bool b)
  | .str s => K (.str s)
  | .lit v => K (.lit v)
  | .ptr i ver off => K (.ptr i ver off)
  | .own i ver off len sz => K (.own i ver off len sz)
  | .ownC i ver off len cap sz => K (.ownC i ver off len cap sz)
  | .imm sz l => K (.imm sz l)
  | .pimm c => K (.pimm c)
  | .fn f a b => K (.fn f a b)
  | .iface t v => K (.iface t v)
  | .agg l => K (.agg l)
  | .tup l => K (.tup l)
  | .map i ver => K (.map i ver)
  | .cell1 => K .cell1
  | .top => K .top

theorem fv_eq {β : Type} (v : AV) (K : AV → β) : fv v K = K v := by
  cases v <;> rfl

def putK (tm : List AV) (d : Option Nat) (v : AV) (K : List AV → Prop) : Prop :=
  match d with
  | some d => fv v fun v => setK tm d v K
  | none => K tm

def undefAV : AV := .tup []

def resK (r : Res) (tm : List AV) (d : Option Nat) (K : St → Prop) : Prop :=
  match r with
  | .ok v H' => putK tm d v fun tm => K ⟨tm, H'⟩
  | .okIf p v H' => p ∧ putK tm d v fun tm => K ⟨tm, H'⟩
  | .bad => False

def effK (E : Env) (n0 : List Blk) (dr : Bool) (o : AO) (s : St) (K : St → Prop) : Prop :=
  match s with
  | ⟨tm, H⟩ => match o.op with
    | .call f args =>
      match dr, o.quiet with
      | false, _ => CallG E n0 (f.ev tm) (evL tm args) ⟨tm, H⟩ fun r s' => match s' with
        | ⟨tm, H⟩ => putK tm o.dst r fun tm => K ⟨tm, H⟩
      | true, true => CallQ E (f.ev tm) (evL tm args) ⟨tm, H⟩ fun r s' => match s' with
        | ⟨tm, H⟩ => putK tm o.dst r fun tm => K ⟨tm, H⟩
      | true, false => CallD E (f.ev tm) (evL tm args) ⟨tm, H⟩ fun r s' => match s' with
        | ⟨tm, H⟩ => putK tm o.dst r fun tm => K ⟨tm, H⟩
    | .callP f args => CallP E (f.ev tm) (evL tm args) ⟨tm, H⟩ fun r s' => match s' with
      | ⟨tm, H⟩ => putK tm o.dst r fun tm => K ⟨tm, H⟩
    | op => resK (opRes tm H op) tm o.dst K

def opK (E : Env) (n0 : List Blk) (dr : Bool) (o : AO) (s : St) (K : St → Prop) : Prop :=
  match s with
  | ⟨tm, H⟩ => match o.guard with
    | none => effK E n0 dr o ⟨tm, H⟩ K
    | some (g, want) =>
      match getK tm g with
      | some (.bool b) => match b with
        | true => setK tm g (.bool true) fun tm => match want with
          | true => effK E n0 dr o ⟨tm, H⟩ K
          | false => putK tm o.dst undefAV fun tm => K ⟨tm, H⟩
        | false => setK tm g (.bool false) fun tm => match want with
          | false => effK E n0 dr o ⟨tm, H⟩ K
          | true => putK tm o.dst undefAV fun tm => K ⟨tm, H⟩
      | some (.tup _) => putK tm o.dst undefAV fun tm => K ⟨tm, H⟩
      | _ => False

theorem effK_eq (E : Env) (n0 : List Blk) (dr : Bool) (o : AO) (s : St) (K : St → Prop) : effK E n0 dr o s K = (match o.op with
  | .call f args =>
    match dr, o.quiet with
    | false, _ => CallG E n0 (f.ev s.tm) (evL s.tm args) s fun r s' => putK s'.tm o.dst r fun tm => K ⟨tm, s'.H⟩
    | true, true => CallQ E (f.ev s.tm) (evL s.tm args) s fun r s' => putK s'.tm o.dst r fun tm => K ⟨tm, s'.H⟩
    | true, false => CallD E (f.ev s.tm) (evL s.tm args) s fun r s' => putK s'.tm o.dst r fun tm => K ⟨tm, s'.H⟩
  | .callP f args => CallP E (f.ev s.tm) (evL s.tm args) s fun r s' => putK s'.tm o.dst r fun tm => K ⟨tm, s'.H⟩
  | op => resK (opRes s.tm s.H op) s.tm o.dst K) := rfl

theorem opK_eq (E : Env) (n0 : List Blk) (dr : Bool) (o : AO) (s : St) (K : St → Prop) : opK E n0 dr o s K = (match o.guard with
  | none => effK E n0 dr o s K
  | some (g, want) =>
    match getK s.tm g with
    | some (.bool b) => match b with
      | true => setK s.tm g (.bool true) fun tm => match want with
        | true => effK E n0 dr o ⟨tm, s.H⟩ K
        | false => putK tm o.dst undefAV fun tm => K ⟨tm, s.H⟩
      | false => setK s.tm g (.bool false) fun tm => match want with
        | false => effK E n0 dr o ⟨tm, s.H⟩ K
        | true => putK tm o.dst undefAV fun tm => K ⟨tm, s.H⟩
    | some (.tup _) => putK s.tm o.dst undefAV fun tm => K ⟨tm, s.H⟩
    | _ => False) := rfl

def opsK (E : Env) (n0 : List Blk) (dr : Bool) : List AO → St → (St → Prop) → Prop
  | [], s, K => K s
  | o :: r, s, K => opK E n0 dr o s fun s' => opsK E n0 dr r s' K

inductive Ex where
  | normal
  | exit (id : Nat)
  | ret
  | goto (l : Nat)

/-- a loop: what holds at its head, by a parameter, and a measure -/
@[irreducible] def LoopG (E : Env) (n0 : List Blk) (body : (Ex → St → Prop) → St → Prop) (Q : Ex → St → Prop) (s : St) : Prop :=
  ∃ (α : Type) (I : α → St) (m : α → Nat) (x0 : α), Wk E n0 s (I x0) ∧
    ∀ x, body (fun e s' => match e with
      | .normal => ∃ x', Wk E n0 s' (I x') ∧ m x' < m x
      | e => Q e s') (I x)

/-- a loop by jumps back to a label -/
@[irreducible] def LoopJ (E : Env) (n0 : List Blk) (l : Nat) (body : (Ex → St → Prop) → St → Prop) (Q : Ex → St → Prop) (s : St) : Prop :=
  ∃ (α : Type) (I : α → St) (m : α → Nat) (x0 : α), Wk E n0 s (I x0) ∧
    ∀ x, body (fun e s' => match e with
      | .goto k => k = l ∧ ∃ x', Wk E n0 s' (I x') ∧ m x' < m x
      | e => Q e s') (I x)

def scopeQ (N : St → Prop) (Q : Ex → St → Prop) : Ex → St → Prop
  | .normal, s => N s
  | .goto _, _ => False
  | e, s => Q e s

/-- two ways meet: what both lead to -/
def thenQ (N : St → Prop) (Q : Ex → St → Prop) : Ex → St → Prop
  | .normal, s => N s
  | e, s => Q e s

def blockQ (id : Nat) (Q : Ex → St → Prop) : Ex → St → Prop
  | .exit i, s => match Nat.beq i id with
    | true => Q .normal s
    | false => Q (.exit i) s
  | e, s => Q e s

def condK (tm : List AV) (H : List Blk) (c : AOpd) (A B : St → Prop) : Prop :=
  match c with
  | .tmp t => match getK tm t with
    | some (.bool b) => match b with
      | true => setK tm t (.bool true) fun tm => A ⟨tm, H⟩
      | false => setK tm t (.bool false) fun tm => B ⟨tm, H⟩
    | _ => False
  | .av (.bool b) => match b with
    | true => A ⟨tm, H⟩
    | false => B ⟨tm, H⟩
  | _ => False

def wpc (E : Env) (n0 : List Blk) : AC → (Ex → St → Prop) → St → Prop
  | .skip, Q, s => Q .normal s
  | .ret, Q, s => Q .ret s
  | .exit id, Q, s => Q (.exit id) s
  | .seq a b, Q, s => wpc E n0 a (thenQ (fun s => wpc E n0 b Q s) Q) s
  | .cond c a b, Q, s => match s with
    | ⟨tm, H⟩ => condK tm H c (fun s => wpc E n0 a Q s) (fun s => wpc E n0 b Q s)
  | .block id b, Q, s => wpc E n0 b (blockQ id Q) s
  | .loop b, Q, s => LoopG E n0 (fun Q s => wpc E n0 b Q s) Q s
  | .region ops dr, Q, s => opsK E n0 dr ops s (Q .normal)
  | .label _, Q, s => Q .normal s
  | .goto l, Q, s => Q (.goto l) s
  | .scope l p b, Q, s => wpc E n0 p (scopeQ (fun s => LoopJ E n0 l (fun Q s => wpc E n0 b Q s) Q s) Q) s

/-! the results of a function -/
def resEv (tm : List AV) (H : List Blk) : ARes → Option AV
  | .tmp t => getK tm t
  | .cell t n => match getK tm t with
    | some (.ptr i ver off) => match liveCells H i ver with
      | some (_, cs) => match loadRes n cs off H with
        | .ok v _ => some v
        | _ => none
      | none => none
    | _ => none

def resL (tm : List AV) (H : List Blk) : List ARes → Option (List AV)
  | [] => some []
  | r :: rs => match resEv tm H r, resL tm H rs with
    | some v, some l => some (v :: l)
    | _, _ => none

def oneV : List AV → AV
  | [v] => v
  | l => .tup l

/-- forced -/
def oneK {β : Type} (l : List AV) (K : AV → β) : β :=
  match l with
  | [] => K (.tup [])
  | [a] => fv a K
  | [a, b] => fv a fun a => fv b fun b => K (.tup [a, b])
  | [a, b, c] => fv a fun a => fv b fun b => fv c fun c => K (.tup [a, b, c])
  | a :: b :: c :: d :: r => fv a fun a => fv b fun b => fv c fun c => fv d fun d => K (.tup (a :: b :: c :: d :: r))

theorem oneK_eq {β : Type} (l : List AV) (K : AV → β) : oneK l K = K (oneV l) := by
  unfold oneK
  split <;> simp [fv_eq, oneV]

/-- a result, and the memory, known less of: what the callee made for itself alone is dropped -/
@[irreducible] def WkV (E : Env) (n0 : List Blk) (r : AV) (H : List Blk) (r' : AV) (H' : List Blk) : Prop :=
  ∀ (c0 c : Cx) (v : Value), (c0.H = n0 ∧ HR c0) → Ext c0 c → GOk E c → c.H = H → HR c → VR c r v → ∃ d, d.w = c.w ∧ d.H = H' ∧ HR d ∧ Ext c0 d ∧ VR d r' v

@[irreducible] def RetG (E : Env) (n0 : List Blk) (r : AV) (H : List Blk) (Q : AV → List Blk → Prop) : Prop :=
  ∃ r' H', WkV E n0 r H r' H' ∧ Q r' H'

def retQ (E : Env) (n0 : List Blk) (rs : List ARes) (Q : AV → List Blk → Prop) : Ex → St → Prop
  | .exit _, _ => False
  | .goto _, _ => False
  | _, s => match s with
    | ⟨tm, H⟩ => match resL tm H rs with
      | some l => oneK l fun v => RetG E n0 v H Q
      | none => False
end Ink

namespace Ink
open Go

section
variable {E : Env} {n0 : List Blk} {c0 c : Cx} {s : St} {a : Act}

def putA (tm : List AV) (d : Option Nat) (v : AV) : List AV :=
  match d with
  | some d => tm.set d v
  | none => tm

theorem putK_eq (tm : List AV) (d : Option Nat) (v : AV) (K : List AV → Prop) : putK tm d v K = K (putA tm d v) := by
  cases d with
  | none => rfl
  | some d => simp only [putK, putA, setK_eq, fv_eq]

theorem TR.putA {c : Cx} {tm : List AV} {a : Act} (h : TR c tm a.tmps) {x : AV} {v : Value} (hx : VR c x v) (d : Option Nat) : TR c (putA tm d x) (a.put d v).tmps := by
  cases d with
  | none => exact h
  | some d => exact h.put hx d

theorem put_defers (a : Act) (d : Option Nat) (v : Value) : (a.put d v).defers = a.defers := by cases d <;> rfl

theorem Sim.step (h : Sim E c0 s c a) {d : Cx} (hr : HR d) (e : Ext c d) {v : AV} {x : Value} (hv : VR d v x) (dst : Option Nat) : Sim E c0 ⟨putA s.tm dst v, d.H⟩ d (a.put dst x) where
  H := rfl
  hr := hr
  tr := (h.tr.ext e).putA hv dst
  ext := h.ext.trans e
  g := h.g.ext e
  defers := by rw [put_defers]; exact h.defers

theorem evL_LR (h : TR c s.tm a.tmps) (xs : List Operand) : LR c (evL s.tm (xs.map cOpd)) (xs.map a.eval) := ⟨(evL_ok h xs).1, (evL_ok h xs).2⟩

/-- an operation as it was compiled, or one that asks for more -/
def OpFor (P : Program) (mt : Tmp → Bool) (ob : Oper) (op : AOp) : Prop :=
  ∃ op0, cOp P mt ob = some op0 ∧ (op = op0 ∨ (∃ f args, op0 = .call f args ∧ op = .callP f args) ∨
    ((∀ f args, op ≠ .call f args) ∧ (∀ f args, op ≠ .callP f args) ∧ ∀ tm H, opRes tm H op = opRes tm H op0 ∨ opRes tm H op = .bad))

/-- what a concrete operation is to an abstract one -/
structure OR (P : Program) (mt : Tmp → Bool) (ops : Array Oper) (ob : Oper) (o : AO) : Prop where
  op : OpFor P mt ob o.op
  dst : ob.dst = o.dst
  guard : match ob.guard with
    | none => o.guard = none
    | some (j, b) => ∃ g, (ops[j]?).bind (·.dst) = some g ∧ o.guard = some (g, b)

/-- after the operation: the next place, in the same run -/
def Next' (E : Env) (c0 : Cx) (K : St → Prop) (K' : Act → World → Prop) : Prop := ∀ s' c' a', K s' → Sim E c0 s' c' a' → K' a' c'.w

theorem call_spec0 {mt : Tmp → Bool} {ob : Oper} {f : AOpd} {args : List AOpd} (h : cOp0 E.P mt ob = some (.call f args)) :
    ∃ cl g, ob.op = .call cl ∧ cl.callee = .value g ∧ f = cOpd g ∧ args = cl.args.toList.map cOpd := by
  unfold cOp0 at h
  split at h <;> try (cases h; done)
  all_goals first
    | (simp only [Option.map_eq_some_iff] at h; obtain ⟨_, _, h⟩ := h; cases h; done)
    | skip
  · split at h
    · split at h <;> cases h
    · simp only [Option.map_eq_some_iff] at h; obtain ⟨_, _, h⟩ := h; cases h
  · rename_i t parts ho
    cases hz : zeroC E.P t with
    | none => simp [hz] at h
    | some z =>
      simp only [hz, Option.bind_eq_bind, Option.bind_some] at h
      split at h
      · split at h
        · cases h
        · split at h <;> cases h
      · split at h
        · simp only [Option.map_eq_some_iff] at h; obtain ⟨_, _, h⟩ := h; cases h
        · cases h
      · cases h
  · split at h
    · split at h
      · split at h <;> cases h
      · cases h
    · cases h
  · split at h <;> try (cases h; done)
    · split at h
      · split at h <;> cases h
      · cases h
    · split at h <;> cases h
  · split at h <;> cases h
  · split at h
    · split at h
      · split at h <;> cases h
      · cases h
    · cases h
  · split at h
    · split at h
      · simp only [Option.map_eq_some_iff] at h; obtain ⟨_, _, h⟩ := h; cases h
      · cases h
    · cases h
  · split at h
    · simp only [Option.map_eq_some_iff] at h; obtain ⟨_, _, h⟩ := h; cases h
    · simp only [Option.map_eq_some_iff] at h; obtain ⟨_, _, h⟩ := h; cases h
    · cases h
  · split at h
    · cases h
    · split at h
      · cases h
      · split at h <;> cases h
      · cases h
    · cases h
  · split at h
    · split at h <;> cases h
    · cases h
  · rename_i cl ho
    split at h
    · rename_i g hg; cases h; exact ⟨cl, g, ho, hg, rfl, rfl⟩
    · split at h
      · simp only [Option.map_eq_some_iff] at h; obtain ⟨_, _, h⟩ := h; cases h
      · cases h
    · cases h
    · cases h
    · split at h
      · split at h
        · cases h
        · split at h
          · split at h <;> cases h
          · cases h
        · cases h
      · cases h
    · cases h

theorem call_spec {mt : Tmp → Bool} {ob : Oper} {f : AOpd} {args : List AOpd} (h : cOp E.P mt ob = some (.call f args)) :
    ∃ cl g, ob.op = .call cl ∧ cl.callee = .value g ∧ f = cOpd g ∧ args = cl.args.toList.map cOpd := by
  unfold cOp at h
  split at h
  · rename_i h0
    split at h
    · cases h
    · cases h
      exact call_spec0 h0
  · split at h <;> cases h

theorem cOp_noP {mt : Tmp → Bool} {ob : Oper} {op : AOp} (h : cOp E.P mt ob = some op) : isCallP op = false := by
  unfold cOp at h
  split at h
  · split at h
    · cases h
    · cases h; assumption
  · split at h
    · cases h; rfl
    · cases h

theorem resK_sound0 {ob : Oper} {mt : Tmp → Bool} {ao : AOp} (hop : cOp E.P mt ob = some ao) {dst : Option Nat} (hd : ob.dst = dst) {Q : Exit → Act → World → Prop} {K : St → Prop} {K' : Act → World → Prop}
    (h : resK (opRes s.tm s.H ao) s.tm dst K) (hs : Sim E c0 s c a) (hn : Next' E c0 K K') : ob.wp E.P a c.w K' Q := by
  have S := cOp_sound hop hs.hr hs.tr
  rw [hs.H] at S
  have fin : ∀ v H', OpOk E.P ob a c v H' → K ⟨putA s.tm dst v, H'⟩ → ob.wp E.P a c.w K' Q := by
    rintro v H' ⟨x, d, hH, hr, e, hv, hrun⟩ hk
    have hsim := hs.step hr e hv dst
    rw [hH] at hsim
    have := hn _ _ _ hk hsim
    unfold Oper.wp
    rcases hrun with hrun | ⟨hrun, rfl⟩
    · rw [hrun, Oper.upon_value, hd]; exact this
    · rw [hrun, Oper.upon_skip, hd]; exact this
  generalize hres : opRes s.tm s.H ao = r at h S
  cases r with
  | ok v H' =>
    simp only [resK, putK_eq] at h
    exact fin v H' S h
  | okIf p v H' =>
    simp only [resK, putK_eq] at h
    exact fin v H' (S h.1) h.2
  | bad => exact h.elim

theorem resK_sound {ob : Oper} {mt : Tmp → Bool} {ao : AOp} (hop : OpFor E.P mt ob ao) (hnc : ∀ f args, ao ≠ .callP f args) {dst : Option Nat} (hd : ob.dst = dst) {Q : Exit → Act → World → Prop} {K : St → Prop} {K' : Act → World → Prop}
    (h : resK (opRes s.tm s.H ao) s.tm dst K) (hs : Sim E c0 s c a) (hn : Next' E c0 K K') : ob.wp E.P a c.w K' Q := by
  obtain ⟨op0, h0, h1 | ⟨f, args, _, h1⟩ | ⟨_, _, h1⟩⟩ := hop
  · subst h1; exact resK_sound0 h0 hd h hs hn
  · exact absurd h1 (hnc f args)
  · rcases h1 s.tm s.H with h1 | h1
    · rw [h1] at h; exact resK_sound0 h0 hd h hs hn
    · rw [h1] at h; exact h.elim

theorem invokes_upon {ob : Oper} {cl : Call} {g : Operand} (ho : ob.op = .call cl) (hcl : cl.callee = .value g) {f : FuncId} {vf vc : Array Value} (hg : a.eval g = .func (.func f) vf vc) {w : World} {R : Value → World → Prop}
    (h : Invokes E.P f (vf ++ cl.args.map a.eval ++ vc) w R) {K' : Act → World → Prop} {Q : Exit → Act → World → Prop} (hn : ∀ v w', R v w' → K' (a.put ob.dst v) w') : ob.wp E.P a w K' Q := by
  have hex : execOp a.eval ob = callFunc f (vf ++ cl.args.map a.eval ++ vc) := by
    simp only [execOp, ho, resolve, hcl, Deferred.ofValue, hg]
    rfl
  unfold Oper.wp
  rw [hex]
  rcases h with ⟨h1, h2⟩ | ⟨v, w', h1, h2⟩
  · rw [h1 w, Oper.upon_enter]
    exact h2.mono fun e w' ⟨v, he, hv⟩ => by subst he; exact hn v w' hv
  · rw [h1, Oper.upon_value]
    exact hn v w' h2

theorem fn_inv {f : FuncId} {first cap : List AV} {v : Value} (h : VR c (.fn (.func f) first cap) v) : ∃ vf vc, v = .func (.func f) vf vc ∧ LR c first vf.toList ∧ LR c cap vc.toList := by
  cases h with
  | fn _ _ _ vf vc hlf hlc hf hc =>
    exact ⟨vf, vc, rfl, ⟨by simpa using hlf, fun j x v hx hv => hf j x v hx (by rw [← Array.getElem?_toList]; exact hv)⟩, ⟨by simpa using hlc, fun j x v hx hv => hc j x v hx (by rw [← Array.getElem?_toList]; exact hv)⟩⟩

theorem effK_sound {ob : Oper} {mt : Tmp → Bool} {o : AO} (hop : OpFor E.P mt ob o.op) (hd : ob.dst = o.dst) {Q : Exit → Act → World → Prop} {K : St → Prop} {K' : Act → World → Prop} {dr : Bool} (hn0 : (c0.H = n0 ∧ HR c0))
    (h : effK E n0 dr o s K) (hs : Sim E c0 s c a) (hn : Next' E c0 K K') : ob.wp E.P a c.w K' Q := by
  rw [effK_eq] at h
  split at h
  · rename_i f args heq
    rw [heq] at hop
    have hop : cOp E.P mt ob = some (.call f args) := by
      obtain ⟨op0, h0, h1 | ⟨f', args', _, h1⟩ | ⟨h1, _⟩⟩ := hop
      · rw [h1]; exact h0
      · cases h1
      · exact absurd rfl (h1 f args)
    obtain ⟨cl, g, ho, hcl, rfl, rfl⟩ := call_spec hop
    have hfv := ev_ok hs.tr g
    have hargs := evL_LR (s := s) hs.tr cl.args.toList
    -- the callee, as it stands
    have CALL : ∀ (fid : FuncId) (first cap : List AV), (cOpd g).ev s.tm = .fn (.func fid) first cap → ∃ vf vc, a.eval g = .func (.func fid) vf vc ∧
        LR c (first ++ evL s.tm (cl.args.toList.map cOpd) ++ cap) (vf.toList ++ cl.args.toList.map a.eval ++ vc.toList) := by
      intro fid first cap he
      rw [he] at hfv
      obtain ⟨vf, vc, h1, h2, h3⟩ := fn_inv hfv
      exact ⟨vf, vc, h1, (h2.append hargs).append h3⟩
    have arr : ∀ (vf vc : Array Value), (vf.toList ++ cl.args.toList.map a.eval ++ vc.toList).toArray = vf ++ cl.args.map a.eval ++ vc := by
      intro vf vc
      apply Array.toList_inj.1
      simp
    split at h
    · -- anywhere
      unfold CallG at h
      obtain ⟨fid, first, cap, s1, l1, he, hw, hc⟩ := h
      obtain ⟨vf, vc, hg, hlr⟩ := CALL fid first cap he
      unfold WkL at hw
      obtain ⟨c', hcw, hs', hlr'⟩ := hw c0 c a _ hn0 hs hlr
      unfold ACalls at hc
      have I := hc c' _ hs'.H hs'.hr hs'.g hlr'
      rw [arr, hcw] at I
      refine invokes_upon ho hcl hg I (fun v w' ⟨d, r, h1, h2, h3, h4, h5⟩ => ?_)
      subst h1
      simp only [putK_eq] at h5
      rw [hd]
      exact hn _ _ _ h5 (hs'.step h2 h3 h4 o.dst)
    · -- quiet
      unfold CallQ at h
      obtain ⟨fid, first, cap, r0, he, hc, hk⟩ := h
      obtain ⟨vf, vc, hg, hlr⟩ := CALL fid first cap he
      have hc := hc []
      rw [List.append_nil] at hc
      unfold ACalls at hc
      have I := hc c _ hs.H hs.hr hs.g hlr
      rw [arr] at I
      refine invokes_upon ho hcl hg I (fun v w' ⟨d, r, h1, h2, h3, h4, h5, h6⟩ => ?_)
      subst h1 h5
      simp only [putK_eq] at hk
      rw [hd]
      have := hs.step h2 h3 h4 o.dst
      rw [h6] at this
      exact hn _ _ _ hk this
    · unfold CallD at h
      obtain ⟨fid, first, cap, r0, H1, he, hc, hk⟩ := h
      obtain ⟨vf, vc, hg, hlr⟩ := CALL fid first cap he
      unfold ACalls at hc
      have I := hc c _ hs.H hs.hr hs.g hlr
      rw [arr] at I
      refine invokes_upon ho hcl hg I (fun v w' ⟨d, r, h1, h2, h3, h4, h5, h6⟩ => ?_)
      subst h1 h5
      simp only [putK_eq] at hk
      rw [hd]
      have := hs.step h2 h3 h4 o.dst
      rw [h6] at this
      exact hn _ _ _ hk this
  · -- a call that needs no memory
    rename_i f args heq
    rw [heq] at hop
    have hop : cOp E.P mt ob = some (.call f args) := by
      obtain ⟨op0, h0, h1 | ⟨f', args', h2, h1⟩ | ⟨_, h1, _⟩⟩ := hop
      · have := cOp_noP h0
        rw [← h1] at this
        cases this
      · cases h1; rw [← h2]; exact h0
      · exact absurd rfl (h1 f args)
    obtain ⟨cl, g, ho, hcl, rfl, rfl⟩ := call_spec hop
    have hfv := ev_ok hs.tr g
    have hargs := evL_LR (s := s) hs.tr cl.args.toList
    unfold CallP at h
    obtain ⟨fid, first, cap, r0, he, hc, hk⟩ := h
    rw [he] at hfv
    obtain ⟨vf, vc, hg, h2, h3⟩ := fn_inv hfv
    have hlr := (h2.append hargs).append h3
    have hc := hc s.H
    unfold ACalls at hc
    have I := hc c _ hs.H hs.hr hs.g hlr
    have arr : (vf.toList ++ cl.args.toList.map a.eval ++ vc.toList).toArray = vf ++ cl.args.map a.eval ++ vc := by
      apply Array.toList_inj.1
      simp
    rw [arr] at I
    refine invokes_upon ho hcl hg I (fun v w' ⟨d, r, h1, h2, h3, h4, h5, h6⟩ => ?_)
    subst h1 h5
    simp only [putK_eq] at hk
    rw [hd]
    have := hs.step h2 h3 h4 o.dst
    rw [h6] at this
    exact hn _ _ _ hk this
  · rename_i hnp
    exact resK_sound hop hnp hd h hs hn
end
end Ink

namespace Ink
open Go

section
variable {E : Env} {n0 : List Blk} {c0 c : Cx} {s : St} {a : Act}

theorem getK_tr (h : TR c s.tm a.tmps) {g : Nat} {x : AV} (hx : getK s.tm g = some x) : ∃ v, a.tmps[g]? = some v ∧ VR c x v := by
  rw [getK_eq] at hx
  have hl := getElem?_lt hx
  have hl2 : g < a.tmps.size := by rw [← h.len]; exact hl
  exact ⟨a.tmps[g], Array.getElem?_eq_getElem hl2, h.at_ g x _ hx (Array.getElem?_eq_getElem hl2)⟩

/-- a slot that holds a truth value holds that one -/
theorem Sim.lit (h : Sim E c0 s c a) {g : Nat} {b : Bool} (hb : getK s.tm g = some (.bool b)) : Sim E c0 ⟨s.tm.set g (.bool b), s.H⟩ c a := by
  have e : s.tm.set g (.bool b) = s.tm := by
    rw [getK_eq] at hb
    apply List.ext_getElem?
    intro j
    rw [List.getElem?_set]
    split
    · rename_i he
      subst he
      rw [if_pos (getElem?_lt hb), hb]
    · rfl
  rw [e]; exact h

theorem yielded_of {ops : Array Oper} {j g : Nat} (hj : (ops[j]?).bind (·.dst) = some g) (tmps : Array Value) : yielded ops tmps j = match tmps[g]? with
    | some (.bool b) => some b
    | _ => none := by
  unfold yielded
  rw [hj]
  rfl

theorem opK_sound {ops : Array Oper} {i : Nat} {ob : Oper} (hi : ops[i]? = some ob) {mt : Tmp → Bool} {o : AO} (hor : OR E.P mt ops ob o) {Q : Exit → Act → World → Prop} {K : St → Prop} {K' : Act → World → Prop} {dr : Bool} (hn0 : (c0.H = n0 ∧ HR c0))
    (h : opK E n0 dr o s K) (hs : Sim E c0 s c a) (hn : Next' E c0 K K') : wpOp E.P ops Q i K' a c.w := by
  unfold wpOp
  simp only [hi]
  have skip : Region.wanted ob (yielded ops a.tmps) = false → ∀ s', Sim E c0 s' c a → K ⟨putA s'.tm o.dst undefAV, s'.H⟩ →
      (if Region.wanted ob (yielded ops a.tmps) = true then ob.wp E.P a c.w K' Q ∨ (ob.asks E.P a c.w ∧ LetsOut Q) else K' (a.put ob.dst undef) c.w) := by
    intro hw s' hs' hk
    rw [hw]
    simp only [Bool.false_eq_true, if_false]
    have hu : VR c undefAV undef := .tup [] #[] rfl (fun j x v hx => by simp at hx)
    have := hs'.step hs'.hr (.refl c) hu o.dst
    rw [hs'.H] at this
    rw [hor.dst]
    exact hn _ _ _ hk this
  have run : Region.wanted ob (yielded ops a.tmps) = true → ∀ s', Sim E c0 s' c a → effK E n0 dr o s' K →
      (if Region.wanted ob (yielded ops a.tmps) = true then ob.wp E.P a c.w K' Q ∨ (ob.asks E.P a c.w ∧ LetsOut Q) else K' (a.put ob.dst undef) c.w) := by
    intro hw s' hs' hk
    rw [hw]
    simp only [if_true]
    exact .inl (effK_sound hor.op hor.dst hn0 hk hs' hn)
  have hgr := hor.guard
  rw [opK_eq] at h
  split at h
  · rename_i hg
    rw [hg] at hgr
    have hob : ob.guard = none := by
      cases hgd : ob.guard with
      | none => rfl
      | some p =>
        rw [hgd] at hgr
        obtain ⟨_, _, h2⟩ := hgr
        cases h2
    exact run (by simp [Region.wanted, hob]) s hs h
  · rename_i g want hg
    rw [hg] at hgr
    cases hgd : ob.guard with
    | none => rw [hgd] at hgr; cases hgr
    | some p =>
      obtain ⟨j, b⟩ := p
      rw [hgd] at hgr
      obtain ⟨g', hj, h2⟩ := hgr
      cases h2
      have hwant : Region.wanted ob (yielded ops a.tmps) = (yielded ops a.tmps j == some want) := by simp [Region.wanted, hgd]
      rw [yielded_of hj] at hwant
      split at h
      · rename_i bv hb
        obtain ⟨v, hv, hvr⟩ := getK_tr hs.tr hb
        cases hvr with
        | bool =>
        rw [hv] at hwant
        simp only at hwant
        cases bv with
        | true =>
          simp only [setK_eq] at h
          have hs' := hs.lit hb
          cases want with
          | true => exact run (by rw [hwant]; rfl) _ hs' h
          | false => simp only [putK_eq] at h; exact skip (by rw [hwant]; rfl) _ hs' h
        | false =>
          simp only [setK_eq] at h
          have hs' := hs.lit hb
          cases want with
          | true => simp only [putK_eq] at h; exact skip (by rw [hwant]; rfl) _ hs' h
          | false => exact run (by rw [hwant]; rfl) _ hs' h
      · rename_i l hb
        obtain ⟨v, hv, hvr⟩ := getK_tr hs.tr hb
        cases hvr with
        | tup =>
        rw [hv] at hwant
        rw [putK_eq] at h
        exact skip (by rw [hwant]; rfl) s hs h
      · exact h.elim

/-- the operations of a region, one by one -/
structure OL (P : Program) (mt : Tmp → Bool) (ops : Array Oper) (l : List AO) : Prop where
  len : l.length = ops.size
  at_ : ∀ (i : Nat) (ob : Oper), ops[i]? = some ob → ∃ o, l[i]? = some o ∧ OR P mt ops ob o

theorem opsK_sound {ops : Array Oper} {mt : Tmp → Bool} {l : List AO} (hl : OL E.P mt ops l) {Q : Exit → Act → World → Prop} {K : St → Prop} {dr : Bool} (hn0 : (c0.H = n0 ∧ HR c0)) (hn : Next' E c0 K (Q .normal)) :
    ∀ (k : Nat) (s : St) (c : Cx) (a : Act), opsK E n0 dr (l.drop (l.length - k)) s K → k ≤ l.length → Sim E c0 s c a → wpOps E.P ops Q ((List.range l.length).drop (l.length - k)) a c.w
  | 0, s, c, a, h, _, hs => by
    have e1 : (List.range l.length).drop (l.length - 0) = [] := by simp
    have e2 : l.drop (l.length - 0) = [] := by simp
    rw [e1]
    rw [e2] at h
    exact hn _ _ _ h hs
  | k + 1, s, c, a, h, hk, hs => by
    have hlt : l.length - (k + 1) < l.length := by omega
    have e1 : (List.range l.length).drop (l.length - (k + 1)) = (l.length - (k + 1)) :: (List.range l.length).drop (l.length - k) := by
      rw [List.drop_eq_getElem_cons (by simpa using hlt), List.getElem_range]
      congr 2
      omega
    have e2 : l.drop (l.length - (k + 1)) = l[l.length - (k + 1)] :: l.drop (l.length - k) := by
      rw [List.drop_eq_getElem_cons hlt]
      congr 2
      omega
    rw [e1, wpOps_cons]
    rw [e2] at h
    simp only [opsK] at h
    have hsz : l.length - (k + 1) < ops.size := by rw [← hl.len]; exact hlt
    obtain ⟨o, ho, hor⟩ := hl.at_ _ _ (Array.getElem?_eq_getElem hsz)
    rw [List.getElem?_eq_getElem hlt] at ho
    cases ho
    exact opK_sound (Array.getElem?_eq_getElem hsz) hor hn0 h hs (fun s' c' a' h' hs' => opsK_sound hl hn0 hn k s' c' a' h' (by omega) hs')

/-! regions that draw -/

/-- what an operation does in a region that draws -/
inductive Eff (E : Env) (o : AO) (s : St) : AV → List Blk → Prop where
  | ok (v : AV) (H' : List Blk) (h : opRes s.tm s.H o.op = .ok v H') : Eff E o s v H'
  | okIf (p : Prop) (v : AV) (H' : List Blk) (h : opRes s.tm s.H o.op = .okIf p v H') (hp : p) : Eff E o s v H'
  | quiet (f : AOpd) (args : List AOpd) (ho : o.op = .call f args) (hq : o.quiet = true) (fid : FuncId) (first cap : List AV) (r : AV) (hf : f.ev s.tm = .fn (.func fid) first cap)
      (h : ∀ X, ACalls E fid (first ++ evL s.tm args ++ cap) (s.H ++ X) fun r' H' => r' = r ∧ H' = s.H ++ X) : Eff E o s r s.H
  | noisy (f : AOpd) (args : List AOpd) (ho : o.op = .call f args) (hq : o.quiet = false) (fid : FuncId) (first cap : List AV) (r : AV) (H1 : List Blk) (hf : f.ev s.tm = .fn (.func fid) first cap)
      (h : ACalls E fid (first ++ evL s.tm args ++ cap) s.H fun r' H' => r' = r ∧ H' = H1) : Eff E o s r H1
  | pcall (f : AOpd) (args : List AOpd) (ho : o.op = .callP f args) (fid : FuncId) (first cap : List AV) (r : AV) (hf : f.ev s.tm = .fn (.func fid) first cap)
      (h : ∀ H, ACalls E fid (first ++ evL s.tm args ++ cap) H fun r' H' => r' = r ∧ H' = H) : Eff E o s r s.H

/-- its guard: 'some true': it runs; 'some false': it is passed over -/
def grd (o : AO) (tm : List AV) : Option Bool :=
  match o.guard with
  | none => some true
  | some (g, want) => match tm[g]? with
    | some (.bool b) => some (b == want)
    | some (.tup _) => some false
    | _ => none

inductive Stp (E : Env) (o : AO) (s : St) : St → Prop where
  | run (v : AV) (H' : List Blk) (hg : grd o s.tm = some true) (h : Eff E o s v H') : Stp E o s ⟨putA s.tm o.dst v, H'⟩
  | skip (hg : grd o s.tm = some false) : Stp E o s ⟨putA s.tm o.dst undefAV, s.H⟩

theorem opRes_call (tm : List AV) (H : List Blk) (f : AOpd) (args : List AOpd) : opRes tm H (.call f args) = .bad := rfl

theorem effK_iff {o : AO} {K : St → Prop} : effK E n0 true o s K ↔ ∃ v H', Eff E o s v H' ∧ K ⟨putA s.tm o.dst v, H'⟩ := by
  rw [effK_eq]
  split
  · rename_i f args ho
    split
    · rename_i h; cases h
    · rename_i hq
      unfold CallQ
      constructor
      · rintro ⟨fid, first, cap, r, h1, h2, h3⟩
        simp only [putK_eq] at h3
        exact ⟨r, s.H, .quiet f args ho (by assumption) fid first cap r h1 h2, h3⟩
      · rintro ⟨v, H', h, hk⟩
        cases h with
        | ok _ _ h => rw [ho, opRes_call] at h; cases h
        | okIf _ _ _ h => rw [ho, opRes_call] at h; cases h
        | quiet f' args' ho' hq' fid first cap _ hf h => rw [ho] at ho'; cases ho'; exact ⟨fid, first, cap, v, hf, h, by simp only [putK_eq]; exact hk⟩
        | noisy f' args' ho' hq' => simp_all
        | pcall f' args' ho' => rw [ho] at ho'; cases ho'
    · rename_i hq
      unfold CallD
      constructor
      · rintro ⟨fid, first, cap, r, H1, h1, h2, h3⟩
        simp only [putK_eq] at h3
        exact ⟨r, H1, .noisy f args ho (by assumption) fid first cap r H1 h1 h2, h3⟩
      · rintro ⟨v, H', h, hk⟩
        cases h with
        | ok _ _ h => rw [ho, opRes_call] at h; cases h
        | okIf _ _ _ h => rw [ho, opRes_call] at h; cases h
        | quiet f' args' ho' hq' => simp_all
        | noisy f' args' ho' hq' fid first cap _ _ hf h => rw [ho] at ho'; cases ho'; exact ⟨fid, first, cap, v, H', hf, h, by simp only [putK_eq]; exact hk⟩
        | pcall f' args' ho' => rw [ho] at ho'; cases ho'
  · rename_i f args ho
    unfold CallP
    constructor
    · rintro ⟨fid, first, cap, r, h1, h2, h3⟩
      simp only [putK_eq] at h3
      exact ⟨r, s.H, .pcall f args ho fid first cap r h1 h2, h3⟩
    · rintro ⟨v, H', h, hk⟩
      cases h with
      | ok _ _ h => rw [ho] at h; cases h
      | okIf _ _ _ h => rw [ho] at h; cases h
      | quiet f' args' ho' => rw [ho] at ho'; cases ho'
      | noisy f' args' ho' => rw [ho] at ho'; cases ho'
      | pcall f' args' ho' fid first cap _ hf h => rw [ho] at ho'; cases ho'; exact ⟨fid, first, cap, v, hf, h, by simp only [putK_eq]; exact hk⟩
  · rename_i hne hnp
    generalize hr : opRes s.tm s.H o.op = r
    constructor
    · intro h
      cases r with
      | ok v H' => simp only [resK, putK_eq] at h; exact ⟨v, H', .ok v H' hr, h⟩
      | okIf p v H' => simp only [resK, putK_eq] at h; exact ⟨v, H', .okIf p v H' hr h.1, h.2⟩
      | bad => exact h.elim
    · rintro ⟨v, H', h, hk⟩
      cases h with
      | ok _ _ h => rw [hr] at h; subst h; simp only [resK, putK_eq]; exact hk
      | okIf p _ _ h hp => rw [hr] at h; subst h; simp only [resK, putK_eq]; exact ⟨hp, hk⟩
      | quiet f args ho => exact absurd ho (hne f args)
      | noisy f args ho => exact absurd ho (hne f args)
      | pcall f args ho => exact absurd ho (hnp f args)

theorem set_same {tm : List AV} {g : Nat} {x : AV} (h : getK tm g = some x) : tm.set g x = tm := by
  rw [getK_eq] at h
  apply List.ext_getElem?
  intro j
  rw [List.getElem?_set]
  split
  · rename_i he; subst he; rw [if_pos (getElem?_lt h), h]
  · rfl

theorem opK_iff {o : AO} {K : St → Prop} : opK E n0 true o s K ↔ ∃ s', Stp E o s s' ∧ K s' := by
  rw [opK_eq]
  split
  · rename_i hg
    rw [effK_iff]
    constructor
    · rintro ⟨v, H', h, hk⟩; exact ⟨_, .run v H' (by simp [grd, hg]) h, hk⟩
    · rintro ⟨s', h, hk⟩
      cases h with
      | run v H' _ h => exact ⟨v, H', h, hk⟩
      | skip h => simp [grd, hg] at h
  · rename_i g want hg
    have key : ∀ b : Bool, getK s.tm g = some (.bool b) → grd o s.tm = some (b == want) := by
      intro b hb; rw [getK_eq] at hb; simp [grd, hg, hb]
    split
    · rename_i b hb
      have hgb := key b hb
      have yes : b = want → ((∃ v H', Eff E o s v H' ∧ K ⟨putA s.tm o.dst v, H'⟩) ↔ ∃ s', Stp E o s s' ∧ K s') := by
        intro e
        constructor
        · rintro ⟨v, H', h, hk⟩; exact ⟨_, .run v H' (by rw [hgb, e]; simp) h, hk⟩
        · rintro ⟨s', h, hk⟩
          cases h with
          | run v H' _ h => exact ⟨v, H', h, hk⟩
          | skip h => rw [hgb, e] at h; simp at h
      have no : b ≠ want → (K ⟨putA s.tm o.dst undefAV, s.H⟩ ↔ ∃ s', Stp E o s s' ∧ K s') := by
        intro e
        constructor
        · intro hk; exact ⟨_, .skip (by rw [hgb]; simp [e]), hk⟩
        · rintro ⟨s', h, hk⟩
          cases h with
          | run v H' h => rw [hgb] at h; simp at h; exact absurd h e
          | skip => exact hk
      cases b <;> cases want <;> simp only [setK_eq, putK_eq, set_same hb, effK_iff]
      · exact yes rfl
      · exact no (by simp)
      · exact no (by simp)
      · exact yes rfl
    · rename_i l hb
      rw [getK_eq] at hb
      rw [putK_eq]
      constructor
      · intro hk; exact ⟨_, .skip (by simp [grd, hg, hb]), hk⟩
      · rintro ⟨s', h, hk⟩
        cases h with
        | run v H' h => simp [grd, hg, hb] at h
        | skip => exact hk
    · rename_i h1 h2
      constructor
      · exact False.elim
      · rintro ⟨s', h, hk⟩
        have hnone : grd o s.tm = none := by
          unfold grd
          simp only [hg]
          split
          · rename_i b hb; exact absurd (by rw [getK_eq]; exact hb) (h1 b)
          · rename_i l hb; exact absurd (by rw [getK_eq]; exact hb) (h2 l)
          · rfl
        cases h with
        | run v H' h => rw [hnone] at h; cases h
        | skip h => rw [hnone] at h; cases h
end
end Ink

namespace Ink
open Go

section
variable {E : Env} {n0 : List Blk} {c0 c : Cx} {s : St} {a : Act}

/-! what the classes of operations promise -/
def Res.withH (r : Res) (H : List Blk) : Res :=
  match r with
  | .ok v _ => .ok v H
  | .okIf p v _ => .okIf p v H
  | .bad => .bad

def Res.keeps (r : Res) (H : List Blk) : Prop :=
  match r with
  | .ok _ H' => H' = H
  | .okIf _ _ H' => H' = H
  | .bad => True

theorem arith_with (k : IntKind) (chk : Bool) (n : Int) (H H2 : List Blk) : arith k chk n H2 = (arith k chk n H).withH H2 := by
  unfold arith; cases chk <;> rfl

theorem eqOut_with (op : BinOp) (r : Bool) (H H2 : List Blk) : eqOut op r H2 = (eqOut op r H).withH H2 := by
  unfold eqOut; split <;> rfl

theorem bin_with {op : BinOp} {ek : EK} (hek : ek ≠ .pointer) (chk : Bool) (x y : AV) (H H2 : List Blk) : binRes op ek chk x y H2 = (binRes op ek chk x y H).withH H2 := by
  unfold binRes
  split
  · split
    · rfl
    · rfl
    · split
      · rfl
      · split <;> first | exact arith_with _ _ _ _ _ | (cases chk <;> rfl) | rfl
  · split <;> rfl
  · split
    · split <;> rfl
    · rfl
  · split <;> first | exact eqOut_with _ _ _ _ | rfl
  · split
    · exact absurd rfl hek
    · split
      · exact absurd rfl hek
      · rfl
  · split <;> first | exact eqOut_with _ _ _ _ | rfl
  · split <;> first | exact eqOut_with _ _ _ _ | rfl
  · split <;> first | exact eqOut_with _ _ _ _ | rfl
  · split <;> first | exact eqOut_with _ _ _ _ | rfl
  · rfl

theorem loadRes_with (n : Option Nat) (cs : List AV) (off : Nat) (H H2 : List Blk) : loadRes n cs off H2 = (loadRes n cs off H).withH H2 := by
  unfold loadRes
  split
  · split <;> rfl
  · split
    · rw [takeK_eq, takeK_eq]; rfl
    · rfl

theorem pure_with (tm : List AV) {op : AOp} (h : cls op = .pure) (H H2 : List Blk) : opRes tm H2 op = (opRes tm H op).withH H2 := by
  cases op <;> first | (cases h; done) | skip
  · rfl
  · simp only [opRes]; split
    · split <;> rfl
    · rfl
  · rename_i z p
    have e : ∀ H, opRes tm H (.build z p) = (match fillK z (evP tm p) id with | some cs => Res.ok (.agg cs) H | none => .bad) := fun H => fillK_id _ _ _
    rw [e, e]
    split <;> rfl
  · rename_i own typ sz len zero parts
    cases own with
    | true => cases h
    | false =>
      simp only [opRes]
      cases sz with
      | zero => rfl
      | succ n =>
        simp only
        split
        · rfl
        · rw [fillS_id, fillS_id]
          split <;> first | rfl | (rw [fvLL_eq, fvLL_eq]; rfl)
  · rename_i op ek chk x y
    simp only [opRes]
    refine bin_with ?_ _ _ _ _ _
    rintro rfl
    cases h
  · simp only [opRes]; split
    · rfl
    · split
      · exact arith_with _ _ _ _ _
      · rfl
    · rfl
    · rfl
  · rename_i k x
    cases k <;> first | (cases h; done) | skip
    · simp only [opRes, convRes]
      split
      · unfold convInt; split <;> rfl
      · rfl
    · simp only [opRes, convRes]
      split <;> rfl
  · rfl
  · rfl
  · rename_i k x lo hi
    cases k <;> first | (cases h; done) | skip
    all_goals
      simp only [opRes]
      split
      · unfold sliceRes
        split
        · split <;> rfl
        · rename_i hk _; cases hk
        · rename_i hk _; cases hk
        · rename_i hk _; cases hk
        · rename_i hk _; cases hk
        · rfl
      · rfl
  · simp only [opRes]; split
    · exact loadRes_with _ _ _ _ _
    · rfl
  · simp only [opRes]; split <;> rfl
  · simp only [opRes]; split
    · split <;> rfl
    · rfl
  · simp only [opRes]; split
    · split <;> rfl
    · rfl
  · rename_i k x
    cases k <;> first | (cases h; done) | skip
    all_goals
      simp only [opRes]
      unfold lenRes
      split <;> first | rfl | (rename_i hk _; cases hk)
  · simp only [opRes]; split
    · split
      · rfl
      · split <;> rfl
    · rfl
  · rfl

theorem arith_keeps (k : IntKind) (chk : Bool) (n : Int) (H : List Blk) : (arith k chk n H).keeps H := by
  unfold arith; cases chk <;> rfl

theorem eqOut_keeps (op : BinOp) (r : Bool) (H : List Blk) : (eqOut op r H).keeps H := by
  unfold eqOut; split <;> first | rfl | trivial

theorem loadRes_keeps (n : Option Nat) (cs : List AV) (off : Nat) (H : List Blk) : (loadRes n cs off H).keeps H := by
  unfold loadRes
  split
  · split <;> first | rfl | trivial
  · split
    · rw [takeK_eq]; rfl
    · trivial

theorem withH_keeps (r : Res) (H : List Blk) : (r.withH H).keeps H := by cases r <;> first | rfl | trivial

theorem pure_keeps (tm : List AV) {op : AOp} (h : cls op = .pure) (H : List Blk) : (opRes tm H op).keeps H := by
  rw [pure_with tm h H H]
  exact withH_keeps _ _

/-- one lookup more finds what was there -/
theorem getK_app {α : Type} {H X : List α} {i : Nat} {b : α} (h : getK H i = some b) : getK (H ++ X) i = some b := by
  rw [getK_eq] at h ⊢
  rw [List.getElem?_append_left (getElem?_lt h)]; exact h

theorem liveVer_app {H X : List Blk} {i ver : Nat} (h : liveVer H i ver = true) : liveVer (H ++ X) i ver = true := by
  unfold liveVer at h ⊢
  cases hg : getK H i with
  | none => rw [hg] at h; cases h
  | some b => rw [getK_app hg]; rw [hg] at h; exact h

theorem liveCells_app {H X : List Blk} {i ver : Nat} {p} (h : liveCells H i ver = some p) : liveCells (H ++ X) i ver = some p := by
  unfold liveCells at h ⊢
  cases hg : getK H i with
  | none => rw [hg] at h; cases h
  | some b => rw [getK_app hg]; rw [hg] at h; exact h

/-- where it is not bad, a reading operation keeps the memory, and reads the same of a greater one -/
def Res.le (H X : List Blk) (r r' : Res) : Prop :=
  match r with
  | .bad => True
  | _ => r.keeps H ∧ r' = r.withH (H ++ X)

theorem le_with {H X : List Blk} {r : Res} (h : r.keeps H) : Res.le H X r (r.withH (H ++ X)) := by
  cases r <;> first | exact ⟨h, rfl⟩ | trivial

theorem reads_le (tm : List AV) {op : AOp} (h : cls op = .reads) (H X : List Blk) : Res.le H X (opRes tm H op) (opRes tm (H ++ X) op) := by
  cases op <;> first | (cases h; done) | skip
  · -- buildSlice
    rename_i own _ _ _ _ _; cases own <;> cases h
  · -- load
    simp only [opRes]
    split
    · rename_i i ver off he
      cases hl : liveCells H i ver with
      | none => trivial
      | some p =>
        rw [liveCells_app hl]
        simp only
        rw [loadRes_with _ _ _ H (H ++ X)]
        exact le_with (loadRes_keeps _ _ _ _)
    · rw [loadRes_with _ _ _ H (H ++ X)]
      exact le_with (loadRes_keeps _ _ _ _)
    · trivial
  · -- nilCheck
    simp only [opRes]
    split
    · rename_i i ver off he
      cases hl : liveVer H i ver with
      | false => trivial
      | true => rw [liveVer_app hl]; exact ⟨rfl, rfl⟩
    · exact ⟨rfl, rfl⟩
    · split
      · exact ⟨rfl, rfl⟩
      · trivial
    · trivial
  · -- bin
    rename_i op ek chk x y
    simp only [opRes]
    generalize x.ev tm = vx
    generalize y.ev tm = vy
    by_cases hek : ek = .pointer
    · subst hek
      unfold binRes
      split
      · split
        · exact ⟨rfl, rfl⟩
        · exact ⟨rfl, rfl⟩
        · split
          · trivial
          · split <;> first
              | (rw [arith_with _ _ _ H (H ++ X)]; exact le_with (arith_keeps _ _ _ _))
              | (split <;> exact ⟨rfl, rfl⟩)
              | exact ⟨rfl, rfl⟩
              | trivial
      · split <;> first | exact ⟨rfl, rfl⟩ | trivial
      · trivial
      · split <;> first | trivial | (rw [eqOut_with _ _ H (H ++ X)]; exact le_with (eqOut_keeps _ _ _))
      · rename_i i ver off
        cases hl : liveVer H i ver with
        | false => trivial
        | true =>
          rw [liveVer_app hl]
          simp only
          rw [eqOut_with _ _ H (H ++ X)]; exact le_with (eqOut_keeps _ _ _)
      · simp only
        rw [eqOut_with _ _ H (H ++ X)]; exact le_with (eqOut_keeps _ _ _)
      · trivial
      · trivial
      · trivial
      · trivial
    · rw [bin_with hek chk vx vy H (H ++ X)]
      have : (binRes op ek chk vx vy H).keeps H := by rw [bin_with hek chk vx vy H H]; exact withH_keeps _ _
      exact le_with this
  · -- conv
    rename_i k x
    cases k <;> first | (cases h; done) | skip
    simp only [opRes, convRes]
    split
    · exact ⟨rfl, rfl⟩
    · rename_i i ver off len z he
      cases hl : liveCells H i ver with
      | none => trivial
      | some p => rw [liveCells_app hl]; exact ⟨rfl, rfl⟩
    · split
      · exact ⟨rfl, rfl⟩
      · trivial
    · trivial
  · -- slice
    rename_i k x lo hi
    simp only [opRes]
    split
    · unfold sliceRes
      split
      · split <;> exact ⟨rfl, rfl⟩
      · split <;> exact ⟨rfl, rfl⟩
      · rename_i z i ver off len sz _
        cases hl : liveVer H i ver with
        | false => trivial
        | true =>
          rw [liveVer_app hl]
          simp only
          split <;> exact ⟨rfl, rfl⟩
      · rename_i z i ver off len cap sz _
        cases hl : liveVer H i ver with
        | false => trivial
        | true =>
          rw [liveVer_app hl]
          simp only
          split <;> exact ⟨rfl, rfl⟩
      · split
        · split
          · exact ⟨rfl, rfl⟩
          · trivial
        · trivial
      · trivial
    · trivial
  · -- fieldAddr
    simp only [opRes]
    split
    · rename_i i ver off he
      cases hl : liveVer H i ver with
      | false => trivial
      | true => rw [liveVer_app hl]; exact ⟨rfl, rfl⟩
    · exact ⟨rfl, rfl⟩
    · trivial
  · -- indexAddr
    simp only [opRes]
    split
    · split
      · exact ⟨rfl, rfl⟩
      · rename_i i ver off len z he
        cases hl : liveVer H i ver with
        | false => trivial
        | true => rw [liveVer_app hl]; exact ⟨rfl, rfl⟩
      · rename_i len i ver off he
        cases hl : liveVer H i ver with
        | false => trivial
        | true => rw [liveVer_app hl]; exact ⟨rfl, rfl⟩
      · exact ⟨rfl, rfl⟩
      · trivial
    · trivial
  · -- len
    rename_i k x
    simp only [opRes]
    unfold lenRes
    split
    · exact ⟨rfl, rfl⟩
    · exact ⟨rfl, rfl⟩
    · rename_i z i ver off len sz he
      cases hl : liveVer H i ver with
      | false => trivial
      | true => rw [liveVer_app hl]; exact ⟨rfl, rfl⟩
    · exact ⟨rfl, rfl⟩
    · exact ⟨rfl, rfl⟩
    · trivial
  · -- loadA
    simp only [opRes]
    split
    · rename_i i ver off he
      split
      · cases hl : liveCells H i ver with
        | none => trivial
        | some p =>
          rw [liveCells_app hl]
          simp only
          rw [loadRes_with _ _ _ H (H ++ X)]
          exact le_with (loadRes_keeps _ _ _ _)
      · trivial
    · rw [loadRes_with _ _ _ H (H ++ X)]
      exact le_with (loadRes_keeps _ _ _ _)
    · trivial

/-- what adds a block adds just that -/
theorem alloc_app (tm : List AV) {op : AOp} (h : isAlloc op = true) (H : List Blk) :
    (∃ v b, opRes tm H op = .ok v (H ++ [b])) ∨ opRes tm H op = .bad := by
  cases op <;> first | (cases h; done) | skip
  · exact .inl ⟨_, _, by simp only [opRes, pushK, appK_eq]; rfl⟩
  · exact .inl ⟨_, _, by simp only [opRes, pushK, appK_eq]; rfl⟩
  · simp only [opRes]
    split
    · exact .inl ⟨_, _, by simp only [pushK, appK_eq]; rfl⟩
    · exact .inr rfl
  · rename_i own typ sz len zero parts
    cases own with
    | false => cases h
    | true =>
      simp only [opRes]
      cases sz with
      | zero => exact .inr rfl
      | succ n =>
        simp only
        split
        · exact .inr rfl
        · rw [fillS_id]
          split
          · exact .inr rfl
          · exact .inl ⟨_, _, by simp only [pushK, appK_eq]; rfl⟩
end
end Ink

namespace Ink
open Go

section
variable {E : Env} {n0 : List Blk} {c0 c : Cx} {s : St} {a : Act}

/-! operations that keep apart -/
theorem ev_put {x : AOpd} {tm : List AV} {d : Option Nat} {v : AV} (h : ∀ t, d = some t → t ∉ opdT x) : x.ev (putA tm d v) = x.ev tm := by
  cases x with
  | av => rfl
  | tmp t =>
    cases d with
    | none => rfl
    | some d =>
      have : d ≠ t := fun e => h d rfl (by simp [opdT, e])
      simp [putA, AOpd.ev, List.getD_eq_getElem?_getD, this]

theorem evL_put {tm : List AV} {d : Option Nat} {v : AV} : ∀ {xs : List AOpd}, (∀ t, d = some t → t ∉ xs.flatMap opdT) → evL (putA tm d v) xs = evL tm xs
  | [], _ => rfl
  | x :: r, h => by
    simp only [evL]
    rw [ev_put (fun t ht hm => h t ht (by simp [hm])), evL_put (fun t ht hm => h t ht (by simp only [List.flatMap_cons, List.mem_append]; exact .inr hm))]

theorem evP_put {tm : List AV} {d : Option Nat} {v : AV} : ∀ {xs : List (Nat × Nat × AOpd)}, (∀ t, d = some t → t ∉ (xs.map (·.2.2)).flatMap opdT) → evP (putA tm d v) xs = evP tm xs
  | [], _ => rfl
  | (p, q, x) :: r, h => by
    simp only [evP]
    rw [ev_put (fun t ht hm => h t ht (by simp [hm])), evP_put (fun t ht hm => h t ht (by simp only [List.map_cons, List.flatMap_cons, List.mem_append]; exact .inr hm))]

theorem evS_put {tm : List AV} {d : Option Nat} {v : AV} : ∀ {xs : List (Nat × AOpd)}, (∀ t, d = some t → t ∉ (xs.map (·.2)).flatMap opdT) → evS (putA tm d v) xs = evS tm xs
  | [], _ => rfl
  | (p, x) :: r, h => by
    simp only [evS]
    rw [ev_put (fun t ht hm => h t ht (by simp [hm])), evS_put (fun t ht hm => h t ht (by simp only [List.map_cons, List.flatMap_cons, List.mem_append]; exact .inr hm))]

theorem optInt_put {tm : List AV} {d : Option Nat} {v : AV} {x : Option AOpd} (h : ∀ t, d = some t → t ∉ x.toList.flatMap opdT) : optInt (putA tm d v) x = optInt tm x := by
  cases x with
  | none => rfl
  | some x => simp only [optInt]; rw [ev_put (fun t ht hm => h t ht (by simp [hm]))]

theorem opRes_put {tm : List AV} {d : Option Nat} {v : AV} {op : AOp} (h : ∀ t, d = some t → t ∉ op.opds.flatMap opdT) (H : List Blk) : opRes (putA tm d v) H op = opRes tm H op := by
  have one : ∀ x ∈ op.opds, x.ev (putA tm d v) = x.ev tm := fun x hx => ev_put (fun t ht hm => h t ht (List.mem_flatMap.2 ⟨x, hx, hm⟩))
  cases op <;> simp only [opRes]
  · rw [one _ (by simp [AOp.opds])]
  · rw [one _ (by simp [AOp.opds]), one _ (by simp [AOp.opds]), one _ (by simp [AOp.opds])]
  · rw [one _ (by simp [AOp.opds])]
  · rw [evP_put (by simpa [AOp.opds] using h)]
  · rw [evS_put (by simpa [AOp.opds] using h)]
  · rw [one _ (by simp [AOp.opds])]
  · rw [one _ (by simp [AOp.opds]), one _ (by simp [AOp.opds])]
  · rw [one _ (by simp [AOp.opds])]
  · rw [one _ (by simp [AOp.opds]), one _ (by simp [AOp.opds])]
  · rw [one _ (by simp [AOp.opds])]
  · rw [one _ (by simp [AOp.opds])]
  · rw [one _ (by simp [AOp.opds])]
  · rename_i fn x y
    rw [evL_put (fun t ht hm => h t ht (by simp only [AOp.opds, List.flatMap_append, List.mem_append]; exact .inl hm)), evL_put (fun t ht hm => h t ht (by simp only [AOp.opds, List.flatMap_append, List.mem_append]; exact .inr hm))]
  · rename_i k x lo hi
    rw [optInt_put (x := lo) (fun t ht hm => h t ht (by simp only [AOp.opds, List.cons_append, List.flatMap_cons, List.flatMap_append, List.mem_append]; exact .inr (.inl hm))),
      optInt_put (x := hi) (fun t ht hm => h t ht (by simp only [AOp.opds, List.cons_append, List.flatMap_cons, List.flatMap_append, List.mem_append]; exact .inr (.inr hm))), one _ (by simp [AOp.opds])]
  · rw [one _ (by simp [AOp.opds])]
  · rw [one _ (by simp [AOp.opds])]
  · rw [one _ (by simp [AOp.opds]), one _ (by simp [AOp.opds])]
  · rw [one _ (by simp [AOp.opds]), one _ (by simp [AOp.opds])]
  · rw [one _ (by simp [AOp.opds]), one _ (by simp [AOp.opds])]
  · rw [one _ (by simp [AOp.opds])]
  · rw [one _ (by simp [AOp.opds])]
  · rw [one _ (by simp [AOp.opds]), one _ (by simp [AOp.opds])]
  · rw [evL_put (by simpa [AOp.opds] using h)]
  · rw [one _ (by simp [AOp.opds]), one _ (by simp [AOp.opds])]
  · rw [evL_put (by simpa [AOp.opds] using h)]
  · rename_i n a bs
    rw [one _ (by simp [AOp.opds]), evL_put (xs := bs) (fun t ht hm => h t ht (by simp only [AOp.opds, List.flatMap_cons, List.mem_append]; exact .inr hm))]
  · rename_i n a x b bs
    rw [one a (by simp [AOp.opds]), one x (by simp [AOp.opds]), one b (by simp [AOp.opds]), evL_put (xs := bs) (fun t ht hm => h t ht (by simp only [AOp.opds, List.flatMap_cons, List.mem_append]; exact .inr (.inr (.inr hm))))]

theorem grd_put {o : AO} {tm : List AV} {d : Option Nat} {v : AV} (h : ∀ t, d = some t → t ∉ looks o) : grd o (putA tm d v) = grd o tm := by
  unfold grd
  cases hg : o.guard with
  | none => rfl
  | some p =>
    obtain ⟨g, w⟩ := p
    cases d with
    | none => rfl
    | some d =>
      have : d ≠ g := fun e => h d rfl (by simp [looks, hg, e])
      simp [putA, this]

theorem looks_opds {o : AO} {d : Option Nat} (h : ∀ t, d = some t → t ∉ looks o) : ∀ t, d = some t → t ∉ o.op.opds.flatMap opdT :=
  fun t ht hm => h t ht (by simp only [looks, List.mem_append]; exact .inl hm)

theorem Eff.put {o : AO} {tm : List AV} {H : List Blk} {d : Option Nat} {u v : AV} {H' : List Blk} (h : ∀ t, d = some t → t ∉ looks o) : Eff E o ⟨putA tm d u, H⟩ v H' ↔ Eff E o ⟨tm, H⟩ v H' := by
  have hop := opRes_put (tm := tm) (v := u) (looks_opds h) H
  have hc : ∀ f args, o.op = .call f args → f.ev (putA tm d u) = f.ev tm ∧ evL (putA tm d u) args = evL tm args := by
    intro f args ho
    have hl := looks_opds h
    rw [ho] at hl
    exact ⟨ev_put (fun t ht hm => hl t ht (by simp [AOp.opds, hm])), evL_put (fun t ht hm => hl t ht (by simp only [AOp.opds, List.flatMap_cons, List.mem_append]; exact .inr hm))⟩
  have hcp : ∀ f args, o.op = .callP f args → f.ev (putA tm d u) = f.ev tm ∧ evL (putA tm d u) args = evL tm args := by
    intro f args ho
    have hl := looks_opds h
    rw [ho] at hl
    exact ⟨ev_put (fun t ht hm => hl t ht (by simp [AOp.opds, hm])), evL_put (fun t ht hm => hl t ht (by simp only [AOp.opds, List.flatMap_cons, List.mem_append]; exact .inr hm))⟩
  constructor
  · intro he
    cases he with
    | ok _ _ h1 => exact .ok _ _ (by simp only at h1 ⊢; rw [← hop]; exact h1)
    | okIf p _ _ h1 hp => exact .okIf p _ _ (by simp only at h1 ⊢; rw [← hop]; exact h1) hp
    | quiet f args ho hq fid first cap _ hf hh =>
      obtain ⟨e1, e2⟩ := hc f args ho
      exact .quiet f args ho hq fid first cap _ (by simp only at hf ⊢; rw [← e1]; exact hf) (by simp only at hh ⊢; rw [← e2]; exact hh)
    | noisy f args ho hq fid first cap _ _ hf hh =>
      obtain ⟨e1, e2⟩ := hc f args ho
      exact .noisy f args ho hq fid first cap _ _ (by simp only at hf ⊢; rw [← e1]; exact hf) (by simp only at hh ⊢; rw [← e2]; exact hh)
    | pcall f args ho fid first cap _ hf hh =>
      obtain ⟨e1, e2⟩ := hcp f args ho
      exact .pcall f args ho fid first cap _ (by simp only at hf ⊢; rw [← e1]; exact hf) (by simp only at hh ⊢; rw [← e2]; exact hh)
  · intro he
    cases he with
    | ok _ _ h1 => exact .ok _ _ (by simp only at h1 ⊢; rw [hop]; exact h1)
    | okIf p _ _ h1 hp => exact .okIf p _ _ (by simp only at h1 ⊢; rw [hop]; exact h1) hp
    | quiet f args ho hq fid first cap _ hf hh =>
      obtain ⟨e1, e2⟩ := hc f args ho
      exact .quiet f args ho hq fid first cap _ (by simp only at hf ⊢; rw [e1]; exact hf) (by simp only at hh ⊢; rw [e2]; exact hh)
    | noisy f args ho hq fid first cap _ _ hf hh =>
      obtain ⟨e1, e2⟩ := hc f args ho
      exact .noisy f args ho hq fid first cap _ _ (by simp only at hf ⊢; rw [e1]; exact hf) (by simp only at hh ⊢; rw [e2]; exact hh)
    | pcall f args ho fid first cap _ hf hh =>
      obtain ⟨e1, e2⟩ := hcp f args ho
      exact .pcall f args ho fid first cap _ (by simp only at hf ⊢; rw [e1]; exact hf) (by simp only at hh ⊢; rw [e2]; exact hh)

theorem putA_comm (tm : List AV) {x y : Option Nat} (h : ∀ t, x = some t → y ≠ some t) (v u : AV) : putA (putA tm x v) y u = putA (putA tm y u) x v := by
  cases x with
  | none => rfl
  | some x =>
    cases y with
    | none => rfl
    | some y =>
      have : x ≠ y := fun e => h x rfl (by rw [e])
      simp only [putA]
      rw [List.set_comm _ _ this]

theorem cls_call {f : AOpd} {args : List AOpd} : cls (.call f args) = .noisy := rfl

theorem clsO_of {o : AO} (h : ∀ f args, o.op ≠ .call f args) : clsO o = cls o.op := by
  unfold clsO
  split
  · rename_i f args ho; exact absurd ho (h f args)
  · rfl

theorem clsO_call {o : AO} {f : AOpd} {args : List AOpd} (h : o.op = .call f args) : clsO o = if o.quiet then .reads else .noisy := by
  unfold clsO
  rw [h]
  simp only
  cases o.quiet <;> rfl

/-- a pure operation does the same whatever the memory -/
theorem Eff.pure {o : AO} (hp : clsO o = .pure) {tm : List AV} {H H' : List Blk} {v : AV} (h : Eff E o ⟨tm, H⟩ v H') : H' = H ∧ ∀ H2, Eff E o ⟨tm, H2⟩ v H2 := by
  have hcp : cls o.op = .pure := by
    rw [← hp]
    refine (clsO_of fun f args ho => ?_).symm
    rw [clsO_call ho] at hp
    split at hp <;> cases hp
  have hk := pure_keeps tm hcp H
  cases h with
  | ok _ _ h1 =>
    simp only at h1
    rw [h1] at hk
    exact ⟨hk, fun H2 => .ok _ _ (by simp only; rw [pure_with tm hcp H H2, h1]; rfl)⟩
  | okIf p _ _ h1 hpp =>
    simp only at h1
    rw [h1] at hk
    exact ⟨hk, fun H2 => .okIf p _ _ (by simp only; rw [pure_with tm hcp H H2, h1]; rfl) hpp⟩
  | quiet f args ho => rw [ho] at hcp; cases hcp
  | noisy f args ho => rw [ho] at hcp; cases hcp
  | pcall f args ho fid first cap _ hf hh => exact ⟨rfl, fun H2 => .pcall f args ho fid first cap _ hf hh⟩

/-- a reading operation keeps the memory, and reads the same of a greater one -/
theorem Eff.reads {o : AO} (hp : clsO o = .reads) {tm : List AV} {H H' : List Blk} {v : AV} (h : Eff E o ⟨tm, H⟩ v H') : H' = H ∧ ∀ X, Eff E o ⟨tm, H ++ X⟩ v (H ++ X) := by
  have key : (∀ f args, o.op ≠ .call f args) → cls o.op = .reads := fun hne => by rw [← clsO_of hne]; exact hp
  cases h with
  | ok _ _ h1 =>
    simp only at h1
    have hl := fun X => reads_le tm (key fun f args ho => by rw [ho, opRes_call] at h1; cases h1) H X
    rw [h1] at hl
    exact ⟨(hl []).1, fun X => .ok _ _ (by simp only; rw [(hl X).2]; rfl)⟩
  | okIf p _ _ h1 hpp =>
    simp only at h1
    have hl := fun X => reads_le tm (key fun f args ho => by rw [ho, opRes_call] at h1; cases h1) H X
    rw [h1] at hl
    exact ⟨(hl []).1, fun X => .okIf p _ _ (by simp only; rw [(hl X).2]; rfl) hpp⟩
  | quiet f args ho hq fid first cap _ hf hh =>
    exact ⟨rfl, fun X => .quiet f args ho hq fid first cap _ hf (fun Y => by simp only at hh ⊢; have := hh (X ++ Y); rw [← List.append_assoc H X Y] at this; exact this)⟩
  | noisy f args ho hq =>
    rw [clsO_call ho, hq] at hp; cases hp
  | pcall f args ho fid first cap _ hf hh => exact ⟨rfl, fun X => .pcall f args ho fid first cap _ hf hh⟩

theorem Eff.alloc {o : AO} (hp : isAlloc o.op = true) {tm : List AV} {H H' : List Blk} {v : AV} (h : Eff E o ⟨tm, H⟩ v H') : ∃ b, H' = H ++ [b] := by
  rcases alloc_app tm hp H with ⟨u, b, h1⟩ | h1
  · cases h with
    | ok _ _ h2 => simp only at h2; rw [h1] at h2; cases h2; exact ⟨b, rfl⟩
    | okIf p _ _ h2 => simp only at h2; rw [h1] at h2; cases h2
    | quiet f args ho => rw [ho] at hp; cases hp
    | noisy f args ho => rw [ho] at hp; cases hp
    | pcall f args ho => rw [ho] at hp; cases hp
  · cases h with
    | ok _ _ h2 => simp only at h2; rw [h1] at h2; cases h2
    | okIf p _ _ h2 => simp only at h2; rw [h1] at h2; cases h2
    | quiet f args ho => rw [ho] at hp; cases hp
    | noisy f args ho => rw [ho] at hp; cases hp
    | pcall f args ho => rw [ho] at hp; cases hp

/-! stores that are another block's -/
theorem opdBeq_eq {a b : AOpd} (h : opdBeq a b = true) : a = b := by
  cases a <;> cases b <;> simp [opdBeq] at h
  rw [h]

theorem hasOpd_ev {tm : List AV} {b : AOpd} {i : Nat} : ∀ {bs : List AOpd}, hasOpd b bs = true → apartB i (evL tm bs) = true → ∃ j v o, b.ev tm = .ptr j v o ∧ j ≠ i
  | [], h, _ => by cases h
  | x :: r, h, hb => by
    simp only [evL, apartB] at hb
    split at hb
    · rename_i j v o he
      split at hb
      · cases hb
      · rename_i hji
        have hne : j ≠ i := by
          intro e; subst e; simp at hji
        simp only [hasOpd, Bool.or_eq_true] at h
        rcases h with h | h
        · rw [opdBeq_eq h]; exact ⟨j, v, o, he, hne⟩
        · exact hasOpd_ev h hb
    · cases hb

theorem loadA_spec {tm : List AV} {H H2 : List Blk} {n : Option Nat} {a : AOpd} {bs : List AOpd} {u : AV} (h : opRes tm H (.loadA n a bs) = .ok u H2) :
    H2 = H ∧ ∀ H', (∀ j, apartB j (evL tm bs) = true → H'[j]? = H[j]?) → opRes tm H' (.loadA n a bs) = .ok u H' := by
  simp only [opRes] at h ⊢
  have ld : ∀ cs off (H H2 : List Blk), loadRes n cs off H = .ok u H2 → H2 = H ∧ ∀ H', loadRes n cs off H' = .ok u H' := by
    intro cs off H H2 h
    have hk := loadRes_keeps n cs off H
    rw [h] at hk
    refine ⟨hk, fun H' => ?_⟩
    rw [loadRes_with n cs off H H', h]; rfl
  split at h
  · rename_i i ver off he
    split at h
    · rename_i hap
      split at h
      · rename_i t cs hl
        obtain ⟨h1, h2⟩ := ld _ _ _ _ h
        refine ⟨h1, fun H' hs => ?_⟩
        have : liveCells H' i ver = some (t, cs) := by
          unfold liveCells at hl ⊢
          rw [getK_eq] at hl ⊢
          rw [hs i hap]; exact hl
        simp only [this]
        exact h2 H'
      · cases h
    · cases h
  · rename_i c he
    obtain ⟨h1, h2⟩ := ld _ _ _ _ h
    exact ⟨h1, fun H' _ => h2 H'⟩
  · cases h

theorem loadA_noIf {tm : List AV} {H H2 : List Blk} {n : Option Nat} {a : AOpd} {bs : List AOpd} {u : AV} {p : Prop} : opRes tm H (.loadA n a bs) ≠ .okIf p u H2 := by
  intro h
  simp only [opRes] at h
  have ld : ∀ cs off, loadRes n cs off H ≠ .okIf p u H2 := by
    intro cs off h
    unfold loadRes at h
    split at h
    · split at h <;> cases h
    · split at h
      · rw [takeK_eq] at h; cases h
      · cases h
  split at h
  · split at h
    · split at h
      · exact ld _ _ h
      · cases h
    · cases h
  · exact ld _ _ h
  · cases h

theorem storeA_spec {tm : List AV} {H H1 : List Blk} {n : Nat} {a x b : AOpd} {bs : List AOpd} {v : AV} (h : opRes tm H (.storeA n a x b bs) = .ok v H1) :
    ∃ i ver t cs cs', H1 = H.set i ⟨ver, true, .cells t cs'⟩ ∧ H[i]? = some ⟨ver, true, .cells t cs⟩ ∧ (∃ w o, b.ev tm = .ptr i w o) ∧ apartB i (evL tm bs) = true ∧ v = .top ∧
      ∀ H', H'[i]? = H[i]? → opRes tm H' (.storeA n a x b bs) = .ok .top (H'.set i ⟨ver, true, .cells t cs'⟩) := by
  simp only [opRes] at h ⊢
  split at h
  · rename_i i ver off ha
    split at h
    · rename_i j w o hb
      split at h
      · rename_i hap
        simp only [Bool.and_eq_true] at hap
        have hji := Nat.eq_of_beq_eq_true hap.1
        subst hji
        split at h
        · rename_i t cs hl
          split at h
          · cases h
          · rename_i l hls
            split at h
            · rename_i hle
              simp only [takeK_eq, dropK_eq, appK_eq, setK_eq, id] at h
              cases h
              have hlv := liveCells_some hl
              refine ⟨j, ver, t, cs, _, rfl, hlv, ⟨w, o, hb⟩, hap.2, rfl, fun H' hs => ?_⟩
              have : liveCells H' j ver = some (t, cs) := by
                unfold liveCells at hl ⊢
                rw [getK_eq] at hl ⊢
                rw [hs]; exact hl
              simp only [this, hle, takeK_eq, dropK_eq, appK_eq, setK_eq, id]
            · cases h
        · cases h
      · cases h
    · cases h
  · cases h

theorem storeA_noIf {tm : List AV} {H H1 : List Blk} {n : Nat} {a x b : AOpd} {bs : List AOpd} {v : AV} {p : Prop} : opRes tm H (.storeA n a x b bs) ≠ .okIf p v H1 := by
  intro h
  simp only [opRes] at h
  (repeat' split at h) <;> first | (cases h; done) | (simp only [takeK_eq, dropK_eq, appK_eq, setK_eq, id] at h; cases h)

/-- what looks at versions alone -/
theorem look_with (tm : List AV) {op : AOp} (h : lookOp op = true) {H H' : List Blk} (hv : ∀ i ver, liveVer H' i ver = liveVer H i ver) : opRes tm H' op = (opRes tm H op).withH H' ∧ (opRes tm H op).keeps H := by
  cases op <;> first | (cases h; done) | skip
  · -- nilCheck
    simp only [opRes]
    split
    · rw [hv]; split <;> exact ⟨rfl, by first | rfl | trivial⟩
    · exact ⟨rfl, rfl⟩
    · split <;> exact ⟨rfl, by first | rfl | trivial⟩
    · exact ⟨rfl, trivial⟩
  · -- bin
    rename_i op ek chk x y
    simp only [opRes]
    generalize x.ev tm = vx
    generalize y.ev tm = vy
    have hek : ek = .pointer := by cases ek <;> first | rfl | cases h
    subst hek
    unfold binRes
    split
    · split
      · exact ⟨rfl, rfl⟩
      · exact ⟨rfl, rfl⟩
      · split
        · exact ⟨rfl, trivial⟩
        · split <;> first
            | exact ⟨arith_with _ _ _ _ _, arith_keeps _ _ _ _⟩
            | (split <;> exact ⟨rfl, rfl⟩)
            | exact ⟨rfl, rfl⟩
            | exact ⟨rfl, trivial⟩
    · split <;> exact ⟨rfl, by first | rfl | trivial⟩
    · exact ⟨rfl, trivial⟩
    · split <;> first | exact ⟨rfl, trivial⟩ | exact ⟨eqOut_with _ _ _ _, eqOut_keeps _ _ _⟩
    · rw [hv]
      split <;> first | exact ⟨rfl, trivial⟩ | exact ⟨eqOut_with _ _ _ _, eqOut_keeps _ _ _⟩
    · exact ⟨eqOut_with _ _ _ _, eqOut_keeps _ _ _⟩
    · exact ⟨rfl, trivial⟩
    · exact ⟨rfl, trivial⟩
    · exact ⟨rfl, trivial⟩
    · exact ⟨rfl, trivial⟩
  · -- slice
    rename_i k x lo hi
    cases k <;> first | (cases h; done) | skip
    simp only [opRes]
    split
    · unfold sliceRes
      split
      · rename_i hk _; cases hk
      · split <;> exact ⟨rfl, rfl⟩
      · rw [hv]
        split
        · exact ⟨rfl, trivial⟩
        · split <;> exact ⟨rfl, rfl⟩
      · rw [hv]
        split
        · exact ⟨rfl, trivial⟩
        · split <;> exact ⟨rfl, rfl⟩
      · split
        · split
          · exact ⟨rfl, rfl⟩
          · exact ⟨rfl, trivial⟩
        · exact ⟨rfl, trivial⟩
      · exact ⟨rfl, trivial⟩
    · exact ⟨rfl, trivial⟩
  · -- fieldAddr
    simp only [opRes]
    split
    · rw [hv]; split <;> exact ⟨rfl, by first | rfl | trivial⟩
    · exact ⟨rfl, rfl⟩
    · exact ⟨rfl, trivial⟩
  · -- indexAddr
    simp only [opRes]
    split
    · split
      · exact ⟨rfl, rfl⟩
      · rw [hv]; split <;> exact ⟨rfl, by first | rfl | trivial⟩
      · rw [hv]; split <;> exact ⟨rfl, by first | rfl | trivial⟩
      · exact ⟨rfl, rfl⟩
      · exact ⟨rfl, trivial⟩
    · exact ⟨rfl, trivial⟩
  · -- len
    rename_i k x
    cases k <;> first | (cases h; done) | skip
    simp only [opRes]
    unfold lenRes
    split
    · rename_i hk _; cases hk
    · exact ⟨rfl, rfl⟩
    · rw [hv]; split <;> exact ⟨rfl, by first | rfl | trivial⟩
    · exact ⟨rfl, rfl⟩
    · rename_i hk; cases hk
    · exact ⟨rfl, trivial⟩

theorem liveVer_set {H : List Blk} {i ver : Nat} {k k' : BK} (h : H[i]? = some ⟨ver, true, k⟩) (j w : Nat) : liveVer (H.set i ⟨ver, true, k'⟩) j w = liveVer H j w := by
  by_cases e : i = j
  · subst e
    have h2 : (H.set i ⟨ver, true, k'⟩)[i]? = some ⟨ver, true, k'⟩ := by rw [List.getElem?_set, if_pos rfl, if_pos (getElem?_lt h)]
    simp only [liveVer, getK_eq, h, h2]
  · simp [liveVer, getK_eq, List.getElem?_set_ne e]

/-- an effect of an operation that is no call -/
theorem Eff.inv {o : AO} {s : St} {v : AV} {H' : List Blk} (h : Eff E o s v H') (hc : ∀ f args, o.op ≠ .call f args) (hp : ∀ f args, o.op ≠ .callP f args) : opRes s.tm s.H o.op = .ok v H' ∨ ∃ p, opRes s.tm s.H o.op = .okIf p v H' ∧ p := by
  cases h with
  | ok _ _ h => exact .inl h
  | okIf p _ _ h hp => exact .inr ⟨p, h, hp⟩
  | quiet f args ho => exact absurd ho (hc f args)
  | noisy f args ho => exact absurd ho (hc f args)
  | pcall f args ho => exact absurd ho (hp f args)

theorem Eff.look {o : AO} (hl : lookOp o.op = true) {tm : List AV} {H H' : List Blk} {v : AV} (h : Eff E o ⟨tm, H⟩ v H') : H' = H ∧ ∀ H2, (∀ i ver, liveVer H2 i ver = liveVer H i ver) → Eff E o ⟨tm, H2⟩ v H2 := by
  have hc : ∀ f args, o.op ≠ .call f args := fun f args e => by rw [e] at hl; cases hl
  have hp : ∀ f args, o.op ≠ .callP f args := fun f args e => by rw [e] at hl; cases hl
  have hk := (look_with tm hl (H := H) (H' := H) fun _ _ => rfl).2
  rcases h.inv hc hp with h1 | ⟨p, h1, h2⟩
  · simp only at h1
    rw [h1] at hk
    exact ⟨hk, fun H2 hv => .ok _ _ (by simp only; rw [(look_with tm hl hv).1, h1]; rfl)⟩
  · simp only at h1
    rw [h1] at hk
    exact ⟨hk, fun H2 hv => .okIf p _ _ (by simp only; rw [(look_with tm hl hv).1, h1]; rfl) h2⟩

theorem side_comm {x y : AO} (h : storeSide x.op y.op = true) {tm : List AV} :
    (∀ {H H1 H2 : List Blk} {v u : AV}, Eff E x ⟨tm, H⟩ v H1 → Eff E y ⟨tm, H1⟩ u H2 → ∃ H1', Eff E y ⟨tm, H⟩ u H1' ∧ Eff E x ⟨tm, H1'⟩ v H2) ∧
    (∀ {H H1 H2 : List Blk} {v u : AV}, Eff E y ⟨tm, H⟩ u H1 → Eff E x ⟨tm, H1⟩ v H2 → ∃ H1', Eff E x ⟨tm, H⟩ v H1' ∧ Eff E y ⟨tm, H1'⟩ u H2) := by
  have st : ∀ {o : AO} {n a z b bs} {H H1 : List Blk} {v : AV}, o.op = .storeA n a z b bs → Eff E o ⟨tm, H⟩ v H1 → opRes tm H o.op = .ok v H1 := by
    intro o n a z b bs H H1 v ho he
    rcases he.inv (fun f args e => by rw [ho] at e; cases e) (fun f args e => by rw [ho] at e; cases e) with h | ⟨p, h, _⟩
    · exact h
    · simp only [ho] at h; exact absurd h storeA_noIf
  have ld : ∀ {o : AO} {n a bs} {H H1 : List Blk} {v : AV}, o.op = .loadA n a bs → Eff E o ⟨tm, H⟩ v H1 → opRes tm H o.op = .ok v H1 := by
    intro o n a bs H H1 v ho he
    rcases he.inv (fun f args e => by rw [ho] at e; cases e) (fun f args e => by rw [ho] at e; cases e) with h | ⟨p, h, _⟩
    · exact h
    · simp only [ho] at h; exact absurd h loadA_noIf
  have look : (∃ n a z b bs, x.op = .storeA n a z b bs) → lookOp y.op = true →
      (∀ {H H1 H2 : List Blk} {v u : AV}, Eff E x ⟨tm, H⟩ v H1 → Eff E y ⟨tm, H1⟩ u H2 → ∃ H1', Eff E y ⟨tm, H⟩ u H1' ∧ Eff E x ⟨tm, H1'⟩ v H2) ∧
      (∀ {H H1 H2 : List Blk} {v u : AV}, Eff E y ⟨tm, H⟩ u H1 → Eff E x ⟨tm, H1⟩ v H2 → ∃ H1', Eff E x ⟨tm, H⟩ v H1' ∧ Eff E y ⟨tm, H1'⟩ u H2) := by
    rintro ⟨n, a, z, b, bs, hx⟩ hy
    constructor
    · intro H H1 H2 v u e1 e2
      have h1 := st hx e1
      rw [hx] at h1
      obtain ⟨i, ver, t, cs, cs', rfl, k2, _⟩ := storeA_spec h1
      obtain ⟨rfl, hl⟩ := e2.look hy
      exact ⟨H, hl H (fun j w => (liveVer_set k2 j w).symm), e1⟩
    · intro H H1 H2 v u e1 e2
      obtain ⟨rfl, hl⟩ := e1.look hy
      have h1 := st hx e2
      rw [hx] at h1
      obtain ⟨i, ver, t, cs, cs', rfl, k2, _⟩ := storeA_spec h1
      exact ⟨_, e2, hl _ (fun j w => liveVer_set k2 j w)⟩
  unfold storeSide at h
  split at h
  · -- a load
    rename_i n a z b bs n' a' bs' hx hy
    constructor
    · intro H H1 H2 v u e1 e2
      have h1 := st hx e1
      have h2 := ld hy e2
      rw [hx] at h1
      rw [hy] at h2
      obtain ⟨i, ver, t, cs, cs', rfl, k2, ⟨w, o, k3⟩, _⟩ := storeA_spec h1
      obtain ⟨rfl, hl⟩ := loadA_spec h2
      have key : ∀ j, apartB j (evL tm bs') = true → H[j]? = (H.set i ⟨ver, true, .cells t cs'⟩)[j]? := fun j hj => by
        obtain ⟨j', v', o', k4, k5⟩ := hasOpd_ev h hj
        rw [k3] at k4; cases k4
        rw [List.getElem?_set, if_neg k5]
      exact ⟨H, .ok _ _ (by rw [hy]; exact hl H key), e1⟩
    · intro H H1 H2 v u e1 e2
      have h2 := ld hy e1
      have h1 := st hx e2
      rw [hx] at h1
      rw [hy] at h2
      obtain ⟨rfl, hl⟩ := loadA_spec h2
      obtain ⟨i, ver, t, cs, cs', rfl, k2, ⟨w, o, k3⟩, _⟩ := storeA_spec h1
      have key : ∀ j, apartB j (evL tm bs') = true → (H1.set i ⟨ver, true, .cells t cs'⟩)[j]? = H1[j]? := fun j hj => by
        obtain ⟨j', v', o', k4, k5⟩ := hasOpd_ev h hj
        rw [k3] at k4; cases k4
        rw [List.getElem?_set, if_neg k5]
      exact ⟨_, e2, .ok _ _ (by rw [hy]; exact hl _ key)⟩
  · -- a store
    rename_i n a z b bs n' a' z' b' bs' hx hy
    constructor
    · intro H H1 H2 v u e1 e2
      have h1 := st hx e1
      have h2 := st hy e2
      rw [hx] at h1
      rw [hy] at h2
      obtain ⟨i, ver, t, cs, cs', rfl, k2, ⟨w, o, k3⟩, _, rfl, k6⟩ := storeA_spec h1
      obtain ⟨i', ver', t', ds, ds', rfl, l2, _, l4, rfl, l6⟩ := storeA_spec h2
      obtain ⟨j', v', o', k4, k5⟩ := hasOpd_ev h l4
      rw [k3] at k4; cases k4
      refine ⟨_, .ok _ _ (by rw [hy]; exact l6 H (by rw [List.getElem?_set, if_neg k5])), .ok _ _ ?_⟩
      rw [hx]
      simp only
      rw [k6 _ (by rw [List.getElem?_set, if_neg (Ne.symm k5)]), List.set_comm _ _ k5]
    · intro H H1 H2 v u e1 e2
      have h2 := st hy e1
      have h1 := st hx e2
      rw [hx] at h1
      rw [hy] at h2
      obtain ⟨i', ver', t', ds, ds', rfl, l2, _, l4, rfl, l6⟩ := storeA_spec h2
      obtain ⟨i, ver, t, cs, cs', rfl, k2, ⟨w, o, k3⟩, _, rfl, k6⟩ := storeA_spec h1
      obtain ⟨j', v', o', k4, k5⟩ := hasOpd_ev h l4
      rw [k3] at k4; cases k4
      refine ⟨_, .ok _ _ (by rw [hx]; exact k6 H (by rw [List.getElem?_set, if_neg (Ne.symm k5)])), .ok _ _ ?_⟩
      rw [hy]
      simp only
      rw [l6 _ (by rw [List.getElem?_set, if_neg k5]), List.set_comm _ _ (Ne.symm k5)]
  · rename_i hx _ _
    exact look ⟨_, _, _, _, _, hx⟩ h
  · cases h

theorem apartA_spec {x y : AO} (h : apartA x y = true) : (∀ t, x.dst = some t → t ∉ looks y) ∧ (∀ t, x.dst = some t → y.dst ≠ some t) ∧ (∀ t, y.dst = some t → t ∉ looks x) := by
  unfold apartA at h
  simp only [Bool.and_eq_true] at h
  obtain ⟨h1, h2⟩ := h
  refine ⟨fun t ht => ?_, fun t ht => ?_, fun t ht => ?_⟩
  · rw [ht] at h1; simp at h1; exact h1.1
  · rw [ht] at h1; simp at h1; exact h1.2
  · rw [ht] at h2; simp at h2; exact h2

/-- the effects of two operations that may be turned round -/
theorem eff_comm {x y : AO} (h : pairOk x y = true) {tm : List AV} {H H1 H2 : List Blk} {v u : AV} (hx : Eff E x ⟨tm, H⟩ v H1) (hy : Eff E y ⟨tm, H1⟩ u H2) : ∃ H1', Eff E y ⟨tm, H⟩ u H1' ∧ Eff E x ⟨tm, H1'⟩ v H2 := by
  unfold pairOk at h
  simp only [Bool.and_eq_true, Bool.or_eq_true, beq_iff_eq] at h
  rcases h.2 with (((hp | hp) | ⟨hr, hr2 | ha⟩) | hs) | hs
  · obtain ⟨rfl, hall⟩ := hx.pure hp
    exact ⟨H2, hy, hall H2⟩
  · obtain ⟨rfl, hall⟩ := hy.pure hp
    exact ⟨H, hall H, hx⟩
  · obtain ⟨rfl, _⟩ := hx.reads hr
    obtain ⟨rfl, _⟩ := hy.reads hr2
    exact ⟨_, hy, hx⟩
  · obtain ⟨rfl, hX⟩ := hx.reads hr
    obtain ⟨b, rfl⟩ := hy.alloc ha
    exact ⟨_, hy, hX [b]⟩
  · exact (side_comm hs).1 hx hy
  · exact (side_comm hs).2 hx hy

theorem stp_comm {x y : AO} (h : pairOk x y = true) {s s1 s2 : St} (hx : Stp E x s s1) (hy : Stp E y s1 s2) : ∃ s1', Stp E y s s1' ∧ Stp E x s1' s2 := by
  obtain ⟨a1, a2, a3⟩ := apartA_spec (x := x) (y := y) (by unfold pairOk at h; simp only [Bool.and_eq_true] at h; exact h.1)
  obtain ⟨tm, H⟩ := s
  have comm := fun v u => putA_comm tm a2 v u
  cases hx with
  | run v H1 hg he =>
    cases hy with
    | run u H2 hg2 he2 =>
      rw [grd_put a1] at hg2
      rw [Eff.put a1] at he2
      obtain ⟨H1', e1, e2⟩ := eff_comm h he he2
      refine ⟨_, .run u H1' hg2 e1, ?_⟩
      rw [comm]
      exact .run v H2 (by rw [grd_put a3]; exact hg) ((Eff.put a3).2 e2)
    | skip hg2 =>
      rw [grd_put a1] at hg2
      refine ⟨_, .skip hg2, ?_⟩
      rw [comm]
      exact .run v H1 (by rw [grd_put a3]; exact hg) ((Eff.put a3).2 he)
  | skip hg =>
    cases hy with
    | run u H2 hg2 he2 =>
      rw [grd_put a1] at hg2
      rw [Eff.put a1] at he2
      refine ⟨_, .run u H2 hg2 he2, ?_⟩
      rw [comm]
      exact .skip (by rw [grd_put a3]; exact hg)
    | skip hg2 =>
      rw [grd_put a1] at hg2
      refine ⟨_, .skip hg2, ?_⟩
      rw [comm]
      exact .skip (by rw [grd_put a3]; exact hg)

theorem opsK_mono {l : List AO} : ∀ {s : St} {K K' : St → Prop}, opsK E n0 true l s K → (∀ s, K s → K' s) → opsK E n0 true l s K' := by
  induction l with
  | nil => intro s K K' h hk; exact hk _ h
  | cons o r ih =>
    intro s K K' h hk
    simp only [opsK, opK_iff] at h ⊢
    obtain ⟨s', h1, h2⟩ := h
    exact ⟨s', h1, ih h2 hk⟩

/-- an operation that none of those ahead of it binds may come first -/
theorem bubble {o : AO} : ∀ (pre post : List AO), (∀ x ∈ pre, pairOk x o = true) → ∀ (s : St) (K : St → Prop), opsK E n0 true (pre ++ o :: post) s K → opK E n0 true o s fun s' => opsK E n0 true (pre ++ post) s' K
  | [], _, _, s, K, h => h
  | x :: pre, post, hp, s, K, h => by
    simp only [List.cons_append, opsK, opK_iff] at h ⊢
    obtain ⟨s1, hx, h1⟩ := h
    have h2 := bubble pre post (fun y hy => hp y (by simp [hy])) s1 K h1
    rw [opK_iff] at h2
    obtain ⟨s2, ho, h3⟩ := h2
    obtain ⟨s1', g1, g2⟩ := stp_comm (hp x (by simp)) hx ho
    exact ⟨s1', g1, s2, g2, h3⟩
end
end Ink
