import Derived.Test.YtogcalejbddjjaaGreatDoorPLexC
import Derived.Test.YtogcalejbddjjaaGreatDoorInkD
set_option linter.all false
namespace Ink.D
open Go Go.Proofs
set_option maxRecDepth 100000
variable {E : Env} (hE : E.P = Tryz.prog)

def hexI (c : UInt8) : Int := match hexN c with
  | some v => (v.toNat : Int)
  | none => -1
abbrev lo16 : List UInt8 := [48, 49, 50, 51, 52, 53, 54, 55, 56, 57, 97, 98, 99, 100, 101, 102]
abbrev up16 : List UInt8 := [48, 49, 50, 51, 52, 53, 54, 55, 56, 57, 65, 66, 67, 68, 69, 70]

theorem hex_hit (c : UInt8) (x : Nat) (hx : x < 16) (h : c = lo16.getD x 0 ∨ c = up16.getD x 0) : hexI c = (x : Int) := by
  have key : ∀ x, x < 16 → hexI (lo16.getD x 0) = (x : Int) ∧ hexI (up16.getD x 0) = (x : Int) := by decide +kernel
  rcases h with h | h
  · rw [h]; exact (key x hx).1
  · rw [h]; exact (key x hx).2

theorem hex_miss (c : UInt8) (h : ∀ j, j < 16 → c ≠ lo16.getD j 0 ∧ c ≠ up16.getD j 0) : hexI c = -1 := by
  have key : ∀ c : UInt8, (∃ j, j < 16 ∧ (c = lo16.getD j 0 ∨ c = up16.getD j 0)) ∨ hexI c = -1 := by
    intro c
    revert c
    refine u8all ?_
    decide +kernel
  rcases key c with ⟨j, hj, h1⟩ | h1
  · rcases h1 with h1 | h1
    · exact absurd h1 (h j hj).1
    · exact absurd h1 (h j hj).2
  · exact h1

theorem hexI_some {c v : UInt8} (h : hexN c = some v) : hexI c = (v.toNat : Int) ∧ v.toNat < 16 := by
  have key : ∀ c : UInt8, ((hexN c).getD 0).toNat < 16 := by
    intro c
    revert c
    refine u8all ?_
    decide +kernel
  have := key c
  rw [h] at this
  exact ⟨by simp [hexI, h], this⟩

theorem hexI_none {c : UInt8} (h : hexN c = none) : hexI c = -1 := by simp [hexI, h]

theorem u8eqI (a b : UInt8) : ((a.toNat : Int) = (b.toNat : Int)) ↔ a = b := by
  constructor
  · intro h; exact UInt8.toNat_inj.mp (by omega)
  · intro h; rw [h]

theorem join16 (v1 v2 : UInt8) (h1 : v1.toNat < 16) (h2 : v2.toNat < 16) : IntKind.wrap .u8 (16 * (v1.toNat : Int) + (v2.toNat : Int)) = ((v1 <<< 4 ||| v2).toNat : Int) := by
  have key : ∀ a, a < 16 → ∀ b, b < 16 → IntKind.wrap .u8 (16 * ((UInt8.ofNat a).toNat : Int) + ((UInt8.ofNat b).toNat : Int)) = ((UInt8.ofNat a <<< 4 ||| UInt8.ofNat b).toNat : Int) := by decide +kernel
  have := key v1.toNat h1 v2.toNat h2
  simpa using this

theorem own_un (o : List UInt8) : unAV (List.take o.length (List.drop 0 (bytesAV o))) = o := by
  rw [List.drop_zero, bytesAV_take, unAV_bytes]
theorem ok_own (o : List UInt8) : 1 = 1 ∧ 0 + o.length ≤ (bytesAV o).length ∧ List.take o.length (List.drop 0 (bytesAV o)) = bytesAV (unAV (List.take o.length (List.drop 0 (bytesAV o)))) := by
  refine ⟨rfl, by simp [bytesAV_length], ?_⟩
  rw [own_un, List.drop_zero, bytesAV_take]

include hE
theorem rhex (c : UInt8) : PCalls E 208 [.int .u8 (c.toNat : Int)] (· = .int .i64 (hexI c)) := by
  refine p208 hE fun l => ?_
  conv => whnf
  repeat' (first
    | (refine And.intro ?_ ?_; (focus (first | omega | decide | (unfold inI64; omega) | (simp only [List.length_append, List.length_cons, List.length_nil] <;> omega) | (refine ⟨?_, ?_⟩ <;> omega) | (refine ⟨?_, ?_, ?_, ?_, ?_, ?_⟩ <;> first | rfl | trivial | decide | (simp [bytesAV_length] <;> omega)) | (simp <;> omega) | (unfold inI64; simp only [List.length_append, List.length_cons, List.length_nil] <;> omega))); conv => whnf)
    | (refine brD (fun _ => ?_) (fun _ => ?_) <;> first | (exfalso; omega) | (conv => whnf))
    | (refine brB (fun _ => ?_) (fun _ => ?_) <;> conv => whnf))
  refine LoopG.s (fun x : Nat => x ≤ 16 ∧ ∀ j, j < x → c ≠ lo16.getD j 0 ∧ c ≠ up16.getD j 0) 19 (fun x => [(0, .int .u8 c.toNat), (2, .int .i64 0), (3, .int .i64 x)]) (fun _ => frm l) (fun x => 16 - x) 0 ⟨by omega, fun j hj => by omega⟩ rfl ⟨rfl, rfl, rfl⟩ rfl ?_
  rintro x ⟨h1, h2⟩
  have l1 : lo16.length = 16 := rfl
  have l2 : up16.length = 16 := rfl
  have ex : (x : Int).toNat = x := Int.toNat_natCast x
  have c1 : ∀ P : Prop, (x : Int) < 16 → ((0 ≤ (x : Int) ∧ (x : Int) < (lo16.length : Int)) ∧ P ↔ P) := fun P h => by rw [l1]; constructor; exact fun h => h.2; exact fun hp => ⟨⟨by omega, by omega⟩, hp⟩
  conv => whnf
  repeat' (first
    | (refine And.intro ?_ ?_; (focus (first | omega | decide | (unfold inI64; omega) | (simp only [List.length_append, List.length_cons, List.length_nil] <;> omega) | (refine ⟨?_, ?_⟩ <;> omega) | (refine ⟨?_, ?_, ?_, ?_, ?_, ?_⟩ <;> first | rfl | trivial | decide | (simp [bytesAV_length] <;> omega)) | (simp <;> omega) | (unfold inI64; simp only [List.length_append, List.length_cons, List.length_nil] <;> omega))); conv => whnf)
    | (refine brD (fun _ => ?_) (fun _ => ?_) <;> first | (exfalso; omega) | (conv => whnf))
    | (refine brB (fun _ => ?_) (fun _ => ?_) <;> conv => whnf))
  all_goals try (exfalso; omega)
  · rename_i a b
    rw [ex, u8eqI] at b
    exact RetG.q ⟨rfl, by rw [hex_hit c x (by omega) (.inl b)], rfl⟩
  · rename_i a b d
    rw [ex, u8eqI] at d
    exact RetG.q ⟨rfl, by rw [hex_hit c x (by omega) (.inr d)], rfl⟩
  · rename_i a b d
    rw [ex, u8eqI] at b d
    refine ⟨x + 1, ⟨⟨by omega, fun j hj => ?_⟩, by omega⟩, Wk.slots rfl ⟨rfl, rfl, rfl⟩⟩
    by_cases hjx : j = x
    · subst hjx; exact ⟨b, d⟩
    · exact h2 j (by omega)
  · have : x = 16 := by omega
    subst this
    exact RetG.q ⟨rfl, by rw [hex_miss c h2], rfl⟩

omit hE in
def restW (s : List UInt8) (e i : Nat) : List UInt8 := (s.drop i).take (e - i)
omit hE in
theorem restW_cons (s : List UInt8) (e i : Nat) (h : i < e) (he : e ≤ s.length) : restW s e i = s[i] :: restW s e (i + 1) := by
  unfold restW
  rw [List.drop_eq_getElem_cons (by omega), show e - i = (e - (i + 1)) + 1 by omega, List.take_succ_cons]
omit hE in
theorem restW_nil (s : List UInt8) (e : Nat) : restW s e e = [] := by simp [restW]

omit hE in
def rnAV (o : Option (List UInt8)) (e : Nat) : AV := match o with
  | some n => .tup [.str n, .int .i64 e, .int .i64 0]
  | none => .tup [.str [], .int .i64 0, .int .i64 3]

theorem rname (s : List UInt8) (k : Nat) (hs : s.length < 1000000) (hk : k ≤ s.length) : PCalls E 141 [.str s, .int .i64 k] (· = rnAV (namedL ((s.drop k).takeWhile isReg)) (k + ((s.drop k).takeWhile isReg).length)) := by
  refine p141 hE fun l => ?_
  have hle := whileL_le isReg s k hk
  have hw : whileL isReg s k = k + ((s.drop k).takeWhile isReg).length := rfl
  have hW : (s.drop k).takeWhile isReg = restW s (whileL isReg s k) k := by
    unfold restW
    rw [take_whileL]
  have hR := run_ hE s k (by unfold big; omega) hk
  rw [← hw, hW]
  generalize whileL isReg s k = e at *
  conv => whnf
  repeat' (first
    | (refine And.intro ?_ ?_; (focus (first | omega | decide | (unfold inI64; omega) | (simp only [List.length_append, List.length_cons, List.length_nil] <;> omega) | (refine ⟨?_, ?_⟩ <;> omega) | (refine ⟨?_, ?_, ?_, ?_, ?_, ?_⟩ <;> first | rfl | trivial | decide | (simp [bytesAV_length] <;> omega)) | (simp <;> omega) | (unfold inI64; simp only [List.length_append, List.length_cons, List.length_nil] <;> omega))); conv => whnf)
    | (refine brD (fun _ => ?_) (fun _ => ?_) <;> first | (exfalso; omega) | (conv => whnf))
    | (refine brB (fun _ => ?_) (fun _ => ?_) <;> conv => whnf)
    | ((first | refine CallG.e hR ?_ | refine CallD.e hR ?_ | refine CallQ.e hR ?_); conv => whnf))
  refine LoopG.w (fun x : Nat × List UInt8 => k ≤ x.1 ∧ x.1 ≤ e ∧ x.2.length ≤ x.1 ∧ namedL (restW s e k) = (namedL (restW s e x.1)).map (x.2 ++ ·)) 70
    (fun x => [(0, .str s), (1, .int .i64 k), (7, .int .i64 e), (8, .own 1 0 0 x.2.length 1), (9, .int .i64 x.1)])
    (fun x => [⟨0, true, .frame l⟩, ⟨0, true, .cells 5 (bytesAV x.2)⟩]) (fun x => e - x.1) (k, []) ⟨by simp, by simp; omega, by simp, by simp⟩ ((Wk.ghost 8 1 5 rfl).trans (Wk.slots rfl ⟨rfl, rfl, rfl, rfl, rfl⟩)) ?_
  rintro ⟨i, out⟩ ⟨h1, h2, h3, h4⟩
  simp only at h1 h2 h3 h4
  dsimp only
  by_cases hi : i < e
  · have hg := getD_at s i (by omega)
    rw [restW_cons s e i hi (by omega)] at h4
    have hnx : ∀ (b : List UInt8) (j : Nat), namedL (s[i] :: restW s e (i + 1)) = (namedL (restW s e (i + 1 + j))).map (b ++ ·) → i + 1 + j ≤ e → b.length ≤ 1 →
        ((k ≤ i + 1 + j ∧ i + 1 + j ≤ e ∧ (out ++ b).length ≤ i + 1 + j ∧ namedL (restW s e k) = (namedL (restW s e (i + 1 + j))).map ((out ++ b) ++ ·)) ∧ e - (i + 1 + j) < e - i) := by
      intro b j h hj hb
      refine ⟨⟨by omega, hj, by simp; omega, ?_⟩, by omega⟩
      rw [h4, h, Option.map_map]
      congr 1
      funext x
      simp
    by_cases h35 : s[i] = 35
    · rw [h35] at hnx h4
      have z35 : ((35 : UInt8).toNat : Int) = 35 := rfl
      by_cases h2e : e ≤ i + 2
      · have hno : octV (restW s e (i + 1)) = none := by
          by_cases he1 : e = i + 1
          · subst he1; rw [restW_nil]; rfl
          · have : e = i + 2 := by omega
            subst this
            rw [restW_cons s (i + 2) (i + 1) (by omega) (by omega), restW_nil]; rfl
        rw [namedL, if_pos rfl, hno] at h4
        conv => whnf
        repeat' (first
          | (rw [hg, h35]; conv => whnf)
          | (refine And.intro ?_ ?_; (focus (first | omega | decide | (unfold inI64; omega) | (simp only [List.length_append, List.length_cons, List.length_nil] <;> omega) | (refine ⟨?_, ?_⟩ <;> omega) | (refine ⟨?_, ?_, ?_, ?_, ?_, ?_⟩ <;> first | rfl | trivial | decide | (simp [bytesAV_length] <;> omega)) | (simp <;> omega) | (unfold inI64; simp only [List.length_append, List.length_cons, List.length_nil] <;> omega))); conv => whnf)
          | (refine brD (fun _ => ?_) (fun _ => ?_) <;> first | (exfalso; omega) | (conv => whnf))
          | (refine brB (fun _ => ?_) (fun _ => ?_) <;> conv => whnf))
        · refine RetG.drop rfl rfl rfl ⟨rfl, ?_, rfl⟩
          rw [h4]; rfl
      · have hg1 := getD_at s (i + 1) (by omega)
        have hg2 := getD_at s (i + 2) (by omega)
        have e1 : restW s e (i + 1) = s[i + 1] :: s[i + 2] :: restW s e (i + 3) := by
          rw [restW_cons s e (i + 1) (by omega) (by omega), restW_cons s e (i + 2) (by omega) (by omega)]
        have hx1 := rhex hE s[i + 1]
        have hx2 := rhex hE s[i + 2]
        generalize s[i + 1] = c1 at *
        generalize s[i + 2] = c2 at *
        have g1 : s.getD ((i : Int) + 1).toNat 0 = c1 := hg1
        have g2 : s.getD ((i : Int) + 2).toNat 0 = c2 := hg2
        rw [e1, namedL, if_pos rfl] at h4
        cases hv1 : hexN c1 with
        | none =>
          have hno : octV (c1 :: c2 :: restW s e (i + 3)) = none := by simp [octV, hv1]
          rw [hno] at h4
          rw [hexI_none hv1] at hx1
          conv => whnf
          repeat' (first
            | (rw [hg, h35]; conv => whnf)
            | (rw [g1]; conv => whnf)
            | (rw [g2]; conv => whnf)
            | (refine And.intro ?_ ?_; (focus (first | omega | decide | (unfold inI64; omega) | (simp only [List.length_append, List.length_cons, List.length_nil] <;> omega) | (refine ⟨?_, ?_⟩ <;> omega) | (refine ⟨?_, ?_, ?_, ?_, ?_, ?_⟩ <;> first | rfl | trivial | decide | (simp [bytesAV_length] <;> omega)) | (simp <;> omega) | (unfold inI64; simp only [List.length_append, List.length_cons, List.length_nil] <;> omega))); conv => whnf)
            | (refine brD (fun _ => ?_) (fun _ => ?_) <;> first | (exfalso; omega) | (conv => whnf))
            | (refine brB (fun _ => ?_) (fun _ => ?_) <;> conv => whnf)
            | ((first | refine CallG.e hx1 ?_ | refine CallD.e hx1 ?_ | refine CallQ.e hx1 ?_); conv => whnf)
            | ((first | refine CallG.e hx2 ?_ | refine CallD.e hx2 ?_ | refine CallQ.e hx2 ?_); conv => whnf))
          refine RetG.drop rfl rfl rfl ⟨rfl, ?_, rfl⟩
          rw [h4]; rfl
        | some v1 =>
          obtain ⟨i1, i2⟩ := hexI_some hv1
          rw [i1] at hx1
          cases hv2 : hexN c2 with
          | none =>
            have hno : octV (c1 :: c2 :: restW s e (i + 3)) = none := by simp [octV, hv1, hv2]
            rw [hno] at h4
            rw [hexI_none hv2] at hx2
            conv => whnf
            repeat' (first
              | (rw [hg, h35]; conv => whnf)
              | (rw [g1]; conv => whnf)
              | (rw [g2]; conv => whnf)
              | (refine And.intro ?_ ?_; (focus (first | omega | decide | (unfold inI64; omega) | (simp only [List.length_append, List.length_cons, List.length_nil] <;> omega) | (refine ⟨?_, ?_⟩ <;> omega) | (refine ⟨?_, ?_, ?_, ?_, ?_, ?_⟩ <;> first | rfl | trivial | decide | (simp [bytesAV_length] <;> omega)) | (simp <;> omega) | (unfold inI64; simp only [List.length_append, List.length_cons, List.length_nil] <;> omega))); conv => whnf)
              | (refine brD (fun _ => ?_) (fun _ => ?_) <;> first | (exfalso; omega) | (conv => whnf))
              | (refine brB (fun _ => ?_) (fun _ => ?_) <;> conv => whnf)
              | ((first | refine CallG.e hx1 ?_ | refine CallD.e hx1 ?_ | refine CallQ.e hx1 ?_); conv => whnf)
              | ((first | refine CallG.e hx2 ?_ | refine CallD.e hx2 ?_ | refine CallQ.e hx2 ?_); conv => whnf))
            refine RetG.drop rfl rfl rfl ⟨rfl, ?_, rfl⟩
            rw [h4]; rfl
          | some v2 =>
            have hyes : octV (c1 :: c2 :: restW s e (i + 3)) = some (v1 <<< 4 ||| v2) := by simp [octV, hv1, hv2]
            obtain ⟨j1, j2⟩ := hexI_some hv2
            rw [j1] at hx2
            have hval := join16 v1 v2 i2 j2
            have hq := hnx [v1 <<< 4 ||| v2] 2 (by rw [e1, namedL, if_pos rfl, hyes]; simp) (by omega) (by simp)
            conv => whnf
            repeat' (first
              | (rw [hg, h35]; conv => whnf)
              | (rw [g1]; conv => whnf)
              | (rw [g2]; conv => whnf)
              | (rw [hval]; conv => whnf)
              | (refine And.intro ?_ ?_; (focus (first | omega | decide | (unfold inI64; omega) | (simp only [List.length_append, List.length_cons, List.length_nil] <;> omega) | (refine ⟨?_, ?_⟩ <;> omega) | (refine ⟨?_, ?_, ?_, ?_, ?_, ?_⟩ <;> first | rfl | trivial | decide | (simp [bytesAV_length] <;> omega)) | (simp <;> omega) | (unfold inI64; simp only [List.length_append, List.length_cons, List.length_nil] <;> omega))); conv => whnf)
              | (refine brD (fun _ => ?_) (fun _ => ?_) <;> first | (exfalso; omega) | (conv => whnf))
              | (refine brB (fun _ => ?_) (fun _ => ?_) <;> conv => whnf)
              | ((first | refine CallG.e hx1 ?_ | refine CallD.e hx1 ?_ | refine CallQ.e hx1 ?_); conv => whnf)
              | ((first | refine CallG.e hx2 ?_ | refine CallD.e hx2 ?_ | refine CallQ.e hx2 ?_); conv => whnf))
            refine ⟨(i + 1 + 2, out ++ [v1 <<< 4 ||| v2]), hq, ?_⟩
            refine Wk.ver 1 1 (k := .cells 5 (bytesAV (out ++ [v1 <<< 4 ||| v2]))) rfl ?_ rfl ?_ rfl ?_
            · refine congrArg (fun z => some (Blk.mk 1 true (.cells 5 z))) ?_
              rw [List.drop_zero, Nat.mul_one, bytesAV_take, bytesAV_append]
              rfl
            · refine ⟨⟨_, rfl, .inl ⟨rfl, rfl⟩⟩, ⟨_, rfl, .inl ⟨rfl, rfl⟩⟩, ⟨_, rfl, .inl ⟨rfl, rfl⟩⟩, ⟨_, rfl, .inr ⟨0, (out ++ [v1 <<< 4 ||| v2]).length, 1, ?_, rfl⟩⟩, ⟨_, rfl, .inl ⟨rfl, rfl⟩⟩, trivial⟩
              rw [List.length_append]; rfl
            · simp [nhH, nhB, nhL_bytes, nhL, nh, tkC]
    · have hq := hnx [s[i]] 0 (by rw [namedL, if_neg h35]; rfl) (by omega) (by simp)
      generalize s[i] = c at *
      have h35' : (c.toNat : Int) ≠ 35 := by simpa [zEq] using h35
      conv => whnf
      repeat' (first
        | (rw [hg]; conv => whnf)
        | (refine And.intro ?_ ?_; (focus (first | omega | decide | (unfold inI64; omega) | (simp only [List.length_append, List.length_cons, List.length_nil] <;> omega) | (refine ⟨?_, ?_⟩ <;> omega) | (refine ⟨?_, ?_, ?_, ?_, ?_, ?_⟩ <;> first | rfl | trivial | decide | (simp [bytesAV_length] <;> omega)) | (simp <;> omega) | (unfold inI64; simp only [List.length_append, List.length_cons, List.length_nil] <;> omega))); conv => whnf)
        | (refine brD (fun _ => ?_) (fun _ => ?_) <;> first | (exfalso; omega) | (conv => whnf))
        | (refine brB (fun _ => ?_) (fun _ => ?_) <;> conv => whnf))
      · refine ⟨(i + 1, out ++ [c]), hq, ?_⟩
        refine Wk.ver 1 1 (k := .cells 5 (bytesAV (out ++ [c]))) rfl ?_ rfl ?_ rfl ?_
        · refine congrArg (fun z => some (Blk.mk 1 true (.cells 5 z))) ?_
          rw [List.drop_zero, Nat.mul_one, bytesAV_take, bytesAV_append]
          rfl
        · refine ⟨⟨_, rfl, .inl ⟨rfl, rfl⟩⟩, ⟨_, rfl, .inl ⟨rfl, rfl⟩⟩, ⟨_, rfl, .inl ⟨rfl, rfl⟩⟩, ⟨_, rfl, .inr ⟨0, (out ++ [c]).length, 1, ?_, rfl⟩⟩, ⟨_, rfl, .inl ⟨rfl, rfl⟩⟩, trivial⟩
          rw [List.length_append]; rfl
        · simp [nhH, nhB, nhL_bytes, nhL, nh, tkC]
  · have : i = e := by omega
    subst this
    rw [restW_nil, namedL] at h4
    conv => whnf
    repeat' (first
      | (refine And.intro ?_ ?_; (focus (first | omega | decide | (unfold inI64; omega) | (simp only [List.length_append, List.length_cons, List.length_nil] <;> omega) | (refine ⟨?_, ?_⟩ <;> omega) | (refine ⟨?_, ?_, ?_, ?_, ?_, ?_⟩ <;> first | rfl | trivial | decide | (simp [bytesAV_length] <;> omega)) | (simp <;> omega) | (unfold inI64; simp only [List.length_append, List.length_cons, List.length_nil] <;> omega))); conv => whnf)
      | (refine brD (fun _ => ?_) (fun _ => ?_) <;> first | (exfalso; omega) | (conv => whnf))
      | (refine brB (fun _ => ?_) (fun _ => ?_) <;> conv => whnf)
      | (refine And.intro (ok_own out) ?_; conv => whnf))
    refine RetG.drop rfl rfl rfl ⟨rfl, ?_, rfl⟩
    rw [h4, own_un]
    simp [rnAV]
end Ink.D

namespace Ink.D
open Go Go.Proofs
set_option maxRecDepth 100000
variable {E : Env} (hE : E.P = Tryz.prog)

def PubL (H : List Blk) (n : Nat) : List AV → List AV → Prop
  | [], [] => True
  | x :: l, y :: m => Pub H n x y ∧ PubL H n l m
  | _, _ => False

theorem PubL.spec {H : List Blk} {n : Nat} : ∀ {l m : List AV}, PubL H n l m → l.length = m.length ∧ ∀ (j : Nat) (x y : AV), l[j]? = some x → m[j]? = some y → Pub H n x y
  | [], [], _ => ⟨rfl, fun j x y h => by simp at h⟩
  | x :: l, y :: m, h => by
    obtain ⟨i1, i2⟩ := PubL.spec h.2
    refine ⟨by simp [i1], fun j u v hu hv => ?_⟩
    cases j with
    | zero => simp at hu hv; subst hu hv; exact h.1
    | succ j => simp at hu hv; exact i2 j u v hu hv
  | [], _ :: _, h => h.elim
  | _ :: _, [], h => h.elim

theorem Pub.tupL {H : List Blk} {n : Nat} {l m : List AV} (h : PubL H n l m) : Pub H n (.tup l) (.tup m) := .tup _ _ h.spec.1 h.spec.2

theorem Pub.bytes {H : List Blk} {n : Nat} {i ver : Nat} {t : TypeId} {l : List UInt8} (hl : liveCells H i ver = some (t, bytesAV l)) (hi : n ≤ i) : Pub H n (.own i ver 0 l.length 1) (.imm 1 (bAV l)) := by
  refine .own i ver 0 l.length 1 t (bytesAV l) (bAV l) hl hi (bAV_len l) (fun x hx => ?_) (fun x hx => ?_) (by rw [bAV_flat, bytesAV_length]; omega) (fun j x y hx hy => ?_)
  · obtain ⟨c, _, rfl⟩ := List.mem_map.mp hx; rfl
  · rw [bAV_flat] at hx
    obtain ⟨c, _, rfl⟩ := List.mem_map.mp hx; rfl
  · rw [bAV_flat] at hx
    rw [Nat.zero_add, hx] at hy
    cases hy
    obtain ⟨c, _, rfl⟩ := List.mem_map.mp (List.mem_of_getElem? hx)
    exact .same _ rfl

theorem mul8 (v : Nat) (h : v < 64) (c : UInt8) (hc : isOct c = true) : IntKind.wrap .u8 ((c.toNat : Int) - 48) = ((c.toNat - 48 : Nat) : Int) ∧ c.toNat - 48 < 8 := by
  have hc' : 48 ≤ c.toNat ∧ c.toNat ≤ 55 := by
    simp only [isOct, decide_eq_true_eq, UInt8.le_iff_toNat_le] at hc
    exact hc
  have : ((c.toNat : Int) - 48) = ((c.toNat - 48 : Nat) : Int) := by omega
  rw [this]
  exact ⟨wrap_u8 _ (by omega), by omega⟩

theorem isOct_iff (c : UInt8) : isOct c = true ↔ 48 ≤ c.toNat ∧ c.toNat ≤ 55 := by
  simp only [isOct, decide_eq_true_eq, UInt8.le_iff_toNat_le]
  exact Iff.rfl

def escAV (x : List UInt8 × Nat) : AV := .tup [.imm 1 (bAV x.1), .int .i64 x.2]

include hE
theorem rescape (s : List UInt8) (hs : s.length < big) (h0 : s ≠ []) : PCalls E 209 [.str s] (· = escAV (escL s)) := by
  unfold big at hs
  have hl0 : 0 < s.length := List.length_pos_iff.mpr h0
  refine p209 hE fun l => ?_
  conv => whnf
  repeat' (first
    | (refine And.intro ?_ ?_; (focus (first | omega | decide | (unfold inI64; omega) | (simp only [List.length_append, List.length_cons, List.length_nil] <;> omega) | (refine ⟨?_, ?_⟩ <;> omega) | (refine ⟨?_, ?_, ?_, ?_, ?_, ?_⟩ <;> first | rfl | trivial | decide | (simp [bytesAV_length] <;> omega)) | (simp <;> omega) | (unfold inI64; simp only [List.length_append, List.length_cons, List.length_nil] <;> omega))); conv => whnf)
    | (refine brD (fun _ => ?_) (fun _ => ?_) <;> first | (exfalso; omega) | (conv => whnf))
    | (refine brB (fun _ => ?_) (fun _ => ?_) <;> conv => whnf))
  refine LoopG.s (fun x : Nat × Nat => x.2 ≤ 3 ∧ x.2 ≤ s.length ∧ x.1 < 8 ^ x.2 ∧ octalL s = ((octG (3 - x.2) (s.drop x.2) x.1).1, (octG (3 - x.2) (s.drop x.2) x.1).2 + x.2)) 78 (fun x => [(0, .str s), (2, .lit (.slice none 0 0)), (3, .int .i64 0), (4, .int .i64 x.2), (5, .int .i64 x.1)]) (fun _ => frm l) (fun x => 3 - x.2) (0, 0) ⟨by simp, by simp, by simp, by simp [octalL]⟩ rfl ⟨rfl, rfl, rfl, rfl, rfl⟩ rfl ?_
  rintro ⟨v, n⟩ ⟨h1, h2, h3, h4⟩
  simp only at h1 h2 h3 h4
  dsimp only
  by_cases hgo : n < s.length ∧ n < 3 ∧ isOct (s.getD n 0) = true
  · obtain ⟨hn, hn3, ho⟩ := hgo
    have hg := getD_at s n hn
    have hd := List.drop_eq_getElem_cons hn
    have hgn : s.getD n 0 = s[n] := by simp [hn]
    rw [hgn] at ho
    obtain ⟨m, hm⟩ : ∃ m, 3 - n = m + 1 := ⟨2 - n, by omega⟩
    have hv : v < 64 := by
      have : (8 : Nat) ^ n ≤ 8 ^ 2 := Nat.pow_le_pow_right (by decide) (by omega)
      omega
    have ho' := (isOct_iff _).mp ho
    obtain ⟨e8, e9⟩ := mul8 v hv _ ho
    generalize s[n] = c at *
    conv => whnf
    repeat' (first
      | (rw [hg]; conv => whnf)
      | (rw [e8]; conv => whnf)
      | (refine And.intro ?_ ?_; (focus (first | omega | decide | (unfold inI64; omega) | (simp only [List.length_append, List.length_cons, List.length_nil] <;> omega) | (refine ⟨?_, ?_⟩ <;> omega) | (refine ⟨?_, ?_, ?_, ?_, ?_, ?_⟩ <;> first | rfl | trivial | decide | (simp [bytesAV_length] <;> omega)) | (simp <;> omega) | (unfold inI64; simp only [List.length_append, List.length_cons, List.length_nil] <;> omega))); conv => whnf)
      | (refine brD (fun _ => ?_) (fun _ => ?_) <;> first | (exfalso; omega) | (conv => whnf))
      | (refine brB (fun _ => ?_) (fun _ => ?_) <;> conv => whnf))
    refine ⟨(v * 8 + (c.toNat - 48), n + 1), ⟨⟨by simp; omega, by simp; omega, ?_, ?_⟩, by simp; omega⟩, Wk.slots rfl ⟨rfl, rfl, rfl, rfl, ?_⟩⟩
    · simp only [Nat.pow_succ]; omega
    · rw [h4, hm, hd]
      have : 3 - (n + 1) = m := by omega
      simp only [octG, ho, if_true, this]
      simp; omega
    · refine congrArg (fun z => some (AV.int .i64 z)) ?_
      omega
  · have hstop : octG (3 - n) (s.drop n) v = (v, 0) := by
      by_cases hn : n < s.length
      · by_cases hn3 : n < 3
        · have hd := List.drop_eq_getElem_cons hn
          obtain ⟨m, hm⟩ : ∃ m, 3 - n = m + 1 := ⟨2 - n, by omega⟩
          have hgn : s.getD n 0 = s[n] := by simp [hn]
          have : isOct s[n] = false := by
            cases hb : isOct s[n] with
            | false => rfl
            | true => exact absurd ⟨hn, hn3, by rw [hgn]; exact hb⟩ hgo
          rw [hm, hd]; simp [octG, this]
        · have : 3 - n = 0 := by omega
          rw [this]; rfl
      · rw [List.drop_eq_nil_of_le (by omega)]
        cases (3 - n) <;> rfl
    rw [hstop] at h4
    simp only [Nat.zero_add] at h4
    have hx : (n < s.length ∧ n < 3) → ¬ (48 ≤ (s.getD n 0).toNat ∧ (s.getD n 0).toNat ≤ 55) := fun h hq => hgo ⟨h.1, h.2, (isOct_iff _).mpr hq⟩
    have ex : ((n : Nat) : Int).toNat = n := Int.toNat_natCast n
    have hw8 : IntKind.wrap .u8 ((v : Nat) : Int) = ((UInt8.ofNat v).toNat : Int) := wrap_ofNat v
    match s, h0 with
    | c :: r, _ =>
      have hc0 : (c :: r).getD (Int.toNat 0) 0 = c := rfl
      by_cases hn0 : 0 < n
      · have he : escL (c :: r) = ([UInt8.ofNat v], n) := by simp [escL, h4, hn0]
        rw [he]
        conv => whnf
        repeat' (first
          | (rw [ex]; conv => whnf)
          | (rw [hw8]; conv => whnf)
          | (refine And.intro ?_ ?_; (focus (first | omega | decide | (unfold inI64; omega) | (simp only [List.length_append, List.length_cons, List.length_nil] <;> omega) | (refine ⟨?_, ?_⟩ <;> omega) | (refine ⟨?_, ?_, ?_, ?_, ?_, ?_⟩ <;> first | rfl | trivial | decide | (simp [bytesAV_length] <;> omega)) | (simp <;> omega) | (unfold inI64; simp only [List.length_append, List.length_cons, List.length_nil] <;> omega))); conv => whnf)
          | (refine brD (fun _ => ?_) (fun _ => ?_) <;> first | (exfalso; omega) | (conv => whnf))
          | (refine brB (fun _ => ?_) (fun _ => ?_) <;> conv => whnf))
        all_goals refine RetG.pub (r' := escAV ([UInt8.ofNat v], n)) (Pub.tupL ⟨Pub.bytes (l := [UInt8.ofNat v]) rfl (Nat.le_refl _), .same _ rfl, trivial⟩) rfl rfl ⟨rfl, rfl, rfl⟩
      · have hn0 : n = 0 := by omega
        subst hn0
        have he : escL (c :: r) = if List.isPrefixOf [13, 10] (c :: r) then ([], 2) else (escC c, 1) := by simp [escL, h4]
        rw [he]
        by_cases hp : c = 13 ∧ ∃ t, r = 10 :: t
        · obtain ⟨rfl, t, rfl⟩ := hp
          have hq : List.isPrefixOf [13, 10] ((13 : UInt8) :: 10 :: t) = true := by simp [List.isPrefixOf]
          rw [if_pos hq]
          conv => whnf
          repeat' (first
            | (rw [ex]; conv => whnf)
            | (refine And.intro ?_ ?_; (focus (first | omega | decide | (unfold inI64; omega) | (simp only [List.length_append, List.length_cons, List.length_nil] <;> omega) | (refine ⟨?_, ?_⟩ <;> omega) | (refine ⟨?_, ?_, ?_, ?_, ?_, ?_⟩ <;> first | rfl | trivial | decide | (simp [bytesAV_length] <;> omega)) | (simp <;> omega) | (unfold inI64; simp only [List.length_append, List.length_cons, List.length_nil] <;> omega))); conv => whnf)
            | (refine brD (fun _ => ?_) (fun _ => ?_) <;> first | (exfalso; omega) | (conv => whnf))
            | (refine brB (fun _ => ?_) (fun _ => ?_) <;> conv => whnf))
          all_goals try (exfalso; rename_i q; simp at q; omega)
          all_goals try (exfalso; rename_i q; exact q rfl)
          all_goals try exact RetG.pub (r' := escAV ([], 2)) (Pub.tupL ⟨.nil _ _, .same _ rfl, trivial⟩) rfl rfl ⟨rfl, rfl, rfl⟩
        · have hq : List.isPrefixOf [13, 10] (c :: r) = false := by
            match r with
            | [] => simp [List.isPrefixOf]
            | d :: t =>
              cases hb : List.isPrefixOf [13, 10] (c :: d :: t) with
              | false => rfl
              | true =>
                simp [List.isPrefixOf] at hb
                exact absurd ⟨hb.1.symm, t, by rw [hb.2]⟩ hp
          rw [hq]
          have hbad : (c.toNat : Int) = 13 → 1 < ((c :: r).length : Int) → (((c :: r).getD (Int.toNat 1) 0).toNat : Int) = 10 → False := by
            intro q1 q2 q3
            match r with
            | [] => simp at q2
            | d :: t =>
              have q1 : c = 13 := by simpa [zEq] using q1
              have q3 : d = 10 := by
                have q3 : (d.toNat : Int) = 10 := q3
                simpa [zEq] using q3
              exact hp ⟨q1, t, by rw [q3]⟩
          conv => whnf
          repeat' (first
            | (rw [ex]; conv => whnf)
            | (rw [hc0]; conv => whnf)
            | (refine And.intro ?_ ?_; (focus (first | omega | decide | (unfold inI64; omega) | (simp only [List.length_append, List.length_cons, List.length_nil] <;> omega) | (refine ⟨?_, ?_⟩ <;> omega) | (refine ⟨?_, ?_, ?_, ?_, ?_, ?_⟩ <;> first | rfl | trivial | decide | (simp [bytesAV_length] <;> omega)) | (simp <;> omega) | (unfold inI64; simp only [List.length_append, List.length_cons, List.length_nil] <;> omega))); conv => whnf)
            | (refine brD (fun _ => ?_) (fun _ => ?_) <;> first | (exfalso; omega) | (conv => whnf))
            | (refine brB (fun _ => ?_) (fun _ => ?_) <;> conv => whnf))
          all_goals try (exfalso; rename_i q1 q2 q3; exact hbad q1 q2 q3)
          all_goals first
            | (have q : c = 110 := by simpa [zEq] using ‹(c.toNat : Int) = 110›
               subst q
               exact RetG.pub (r' := escAV (escC 110, 1)) (Pub.tupL ⟨Pub.bytes (l := [10]) rfl (Nat.le_refl _), .same _ rfl, trivial⟩) rfl rfl ⟨rfl, rfl, rfl⟩)
            | (have q : c = 114 := by simpa [zEq] using ‹(c.toNat : Int) = 114›
               subst q
               exact RetG.pub (r' := escAV (escC 114, 1)) (Pub.tupL ⟨Pub.bytes (l := [13]) rfl (Nat.le_refl _), .same _ rfl, trivial⟩) rfl rfl ⟨rfl, rfl, rfl⟩)
            | (have q : c = 116 := by simpa [zEq] using ‹(c.toNat : Int) = 116›
               subst q
               exact RetG.pub (r' := escAV (escC 116, 1)) (Pub.tupL ⟨Pub.bytes (l := [9]) rfl (Nat.le_refl _), .same _ rfl, trivial⟩) rfl rfl ⟨rfl, rfl, rfl⟩)
            | (have q : c = 98 := by simpa [zEq] using ‹(c.toNat : Int) = 98›
               subst q
               exact RetG.pub (r' := escAV (escC 98, 1)) (Pub.tupL ⟨Pub.bytes (l := [8]) rfl (Nat.le_refl _), .same _ rfl, trivial⟩) rfl rfl ⟨rfl, rfl, rfl⟩)
            | (have q : c = 102 := by simpa [zEq] using ‹(c.toNat : Int) = 102›
               subst q
               exact RetG.pub (r' := escAV (escC 102, 1)) (Pub.tupL ⟨Pub.bytes (l := [12]) rfl (Nat.le_refl _), .same _ rfl, trivial⟩) rfl rfl ⟨rfl, rfl, rfl⟩)
            | (have q : c = 10 := by simpa [zEq] using ‹(c.toNat : Int) = 10›
               subst q
               exact RetG.pub (r' := escAV (escC 10, 1)) (Pub.tupL ⟨.nil _ _, .same _ rfl, trivial⟩) rfl rfl ⟨rfl, rfl, rfl⟩)
            | (have q : c = 13 := by simpa [zEq] using ‹(c.toNat : Int) = 13›
               subst q
               exact RetG.pub (r' := escAV (escC 13, 1)) (Pub.tupL ⟨.nil _ _, .same _ rfl, trivial⟩) rfl rfl ⟨rfl, rfl, rfl⟩)
            | (have q : escC c = [c] := by
                 have n1 : c ≠ 110 := by simpa [zEq] using ‹¬ (c.toNat : Int) = 110›
                 have n2 : c ≠ 114 := by simpa [zEq] using ‹¬ (c.toNat : Int) = 114›
                 have n3 : c ≠ 116 := by simpa [zEq] using ‹¬ (c.toNat : Int) = 116›
                 have n4 : c ≠ 98 := by simpa [zEq] using ‹¬ (c.toNat : Int) = 98›
                 have n5 : c ≠ 102 := by simpa [zEq] using ‹¬ (c.toNat : Int) = 102›
                 have n6 : c ≠ 10 := by simpa [zEq] using ‹¬ (c.toNat : Int) = 10›
                 have n7 : c ≠ 13 := by simpa [zEq] using ‹¬ (c.toNat : Int) = 13›
                 simp [escC, n1, n2, n3, n4, n5, n6, n7]
               rw [q]
               exact RetG.pub (r' := escAV ([c], 1)) (Pub.tupL ⟨Pub.bytes (l := [c]) rfl (Nat.le_refl _), .same _ rfl, trivial⟩) rfl rfl ⟨rfl, rfl, rfl⟩)
end Ink.D

namespace Ink.D
open Go Go.Proofs
set_option maxRecDepth 100000
variable {E : Env} (hE : E.P = Tryz.prog)

def rtAV (k : Nat) (o : Option (List UInt8 × Nat)) : AV := match o with
  | some x => .tup [.str x.1, .int .i64 (k + x.2 : Nat), .int .i64 0]
  | none => .tup [.str [], .int .i64 0, .int .i64 4]

theorem ne_num (c : UInt8) (n : Nat) (hn : n < 256) (h : c ≠ UInt8.ofNat n) : (c.toNat : Int) ≠ n := by
  intro e
  apply h
  have : c.toNat = n := by omega
  refine UInt8.toNat_inj.mp ?_
  rw [UInt8.toNat_ofNat']
  omega

include hE
theorem rtext (s : List UInt8) (k : Nat) (hs : s.length < 1000000) (hk : k ≤ s.length) : PCalls E 142 [.str s, .int .i64 k] (· = rtAV k (textL (s.drop k) 0)) := by
  refine p142 hE fun l => ?_
  conv => whnf
  repeat' (first
    | (refine And.intro ?_ ?_; (focus (first | omega | decide | (unfold inI64; omega) | (simp only [List.length_append, List.length_cons, List.length_nil] <;> omega) | (refine ⟨?_, ?_⟩ <;> omega) | (refine ⟨?_, ?_, ?_, ?_, ?_, ?_⟩ <;> first | rfl | trivial | decide | (simp [bytesAV_length] <;> omega)) | (simp <;> omega) | (unfold inI64; simp only [List.length_append, List.length_cons, List.length_nil] <;> omega))); conv => whnf)
    | (refine brD (fun _ => ?_) (fun _ => ?_) <;> first | (exfalso; omega) | (conv => whnf))
    | (refine brB (fun _ => ?_) (fun _ => ?_) <;> conv => whnf))
  refine LoopG.w (fun x : Nat × Nat × List UInt8 => k ≤ x.1 ∧ x.1 ≤ s.length ∧ x.2.1 ≤ x.1 ∧ x.2.2.length ≤ x.1 ∧ textL (s.drop k) 0 = (textL (s.drop x.1) x.2.1).map fun y => (x.2.2 ++ y.1, x.1 - k + y.2)) 85
    (fun x => [(0, .str s), (1, .int .i64 x.1), (7, .own 1 0 0 x.2.2.length 1), (8, .int .i64 x.2.1)])
    (fun x => [⟨0, true, .frame l⟩, ⟨0, true, .cells 5 (bytesAV x.2.2)⟩]) (fun x => s.length - x.1) (k, 0, []) ⟨by simp, by simp; omega, by simp, by simp, by simp⟩ ((Wk.ghost 7 1 5 rfl).trans (Wk.slots rfl ⟨rfl, rfl, rfl, rfl⟩)) ?_
  rintro ⟨x, d, bs⟩ ⟨h1, h2, h3, h4, h5⟩
  simp only at h1 h2 h3 h4 h5
  dsimp only
  by_cases hx : x < s.length
  · have hg := getD_at s x hx
    have hd := List.drop_eq_getElem_cons hx
    rw [hd] at h5
    have hnx : ∀ (d' j : Nat) (b : List UInt8), textL (s[x] :: s.drop (x + 1)) d = (textL (s.drop (x + 1 + j)) d').map (fun y => (b ++ y.1, 1 + j + y.2)) → x + 1 + j ≤ s.length → d' ≤ x + 1 + j → b.length ≤ 1 + j →
        ((k ≤ x + 1 + j ∧ x + 1 + j ≤ s.length ∧ d' ≤ x + 1 + j ∧ (bs ++ b).length ≤ x + 1 + j ∧ textL (s.drop k) 0 = (textL (s.drop (x + 1 + j)) d').map fun y => ((bs ++ b) ++ y.1, x + 1 + j - k + y.2)) ∧ s.length - (x + 1 + j) < s.length - x) := by
      intro d' j b he hj hd' hb
      refine ⟨⟨by omega, hj, hd', by simp; omega, ?_⟩, by omega⟩
      rw [h5, he, Option.map_map]
      congr 1
      funext y
      simp only [Function.comp_def, List.append_assoc]
      congr 1
      omega
    generalize hc : s[x] = c at *
    have ex1 : ((x : Nat) : Int) + 1 = ((x + 1 : Nat) : Int) := by omega
    by_cases h92 : c = 92
    · subst h92
      have z : ((92 : UInt8).toNat : Int) = 92 := rfl
      by_cases hend : x + 1 < s.length
      · have hne : s.drop (x + 1) ≠ [] := by simp; omega
        have hl := escL_le _ hne
        have hdl : (s.drop (x + 1)).length = s.length - (x + 1) := List.length_drop
        have he := rescape hE (s.drop (x + 1)) (by unfold big; omega) hne
        have e1 : ((x : Int) + 1).toNat = x + 1 := by omega
        have hq := hnx d (escL (s.drop (x + 1))).2 (escL (s.drop (x + 1))).1 (by rw [textL_cons, if_pos rfl, if_neg hne, List.drop_drop]) (by omega) (by omega) (by omega)
        generalize escL (s.drop (x + 1)) = X at *
        obtain ⟨b, n⟩ := X
        dsimp only at hl hq he
        have hfl := bAV_flat b
        have hbl := bAV_len b
        conv => whnf
        repeat' (first
          | (rw [hg]; conv => whnf)
          | (rw [e1]; conv => whnf)
          | (refine And.intro ?_ ?_; (focus (first | omega | decide | (unfold inI64; omega) | (simp only [List.length_append, List.length_cons, List.length_nil] <;> omega) | (refine ⟨?_, ?_⟩ <;> omega) | (refine ⟨?_, ?_, ?_, ?_, ?_, ?_⟩ <;> first | rfl | trivial | decide | (simp [bytesAV_length] <;> omega)) | (simp <;> omega) | (unfold inI64; simp only [List.length_append, List.length_cons, List.length_nil] <;> omega))); conv => whnf)
          | (refine brD (fun _ => ?_) (fun _ => ?_) <;> first | (exfalso; omega) | (conv => whnf))
          | (refine brB (fun _ => ?_) (fun _ => ?_) <;> conv => whnf)
          | ((first | refine CallG.e he ?_ | refine CallD.e he ?_ | refine CallQ.e he ?_); conv => whnf))
        refine ⟨(x + 1 + n, d, bs ++ b), hq, ?_⟩
        refine Wk.ver 1 1 (k := .cells 5 (bytesAV (bs ++ b))) rfl ?_ rfl ?_ rfl ?_
        · refine congrArg (fun z => some (Blk.mk 1 true (.cells 5 z))) ?_
          rw [List.drop_zero, Nat.mul_one, bytesAV_take, hfl, bytesAV_append]
        · refine ⟨⟨_, rfl, .inl ⟨rfl, rfl⟩⟩, ⟨_, rfl, .inl ⟨rfl, rfl⟩⟩, ⟨_, rfl, .inr ⟨0, (bs ++ b).length, 1, ?_, rfl⟩⟩, ⟨_, rfl, .inl ⟨rfl, rfl⟩⟩, trivial⟩
          rw [List.length_append, ← hbl]
        · simp [nhH, nhB, nhL_bytes, nhL, nh, tkC]
      · have ht : s.drop (x + 1) = [] := List.drop_eq_nil_of_le (by omega)
        rw [ht, textL_cons, if_pos rfl, if_pos rfl] at h5
        conv => whnf
        repeat' (first
          | (rw [hg]; conv => whnf)
          | (refine And.intro ?_ ?_; (focus (first | omega | decide | (unfold inI64; omega) | (simp only [List.length_append, List.length_cons, List.length_nil] <;> omega) | (refine ⟨?_, ?_⟩ <;> omega) | (refine ⟨?_, ?_, ?_, ?_, ?_, ?_⟩ <;> first | rfl | trivial | decide | (simp [bytesAV_length] <;> omega)) | (simp <;> omega) | (unfold inI64; simp only [List.length_append, List.length_cons, List.length_nil] <;> omega))); conv => whnf)
          | (refine brD (fun _ => ?_) (fun _ => ?_) <;> first | (exfalso; omega) | (conv => whnf))
          | (refine brB (fun _ => ?_) (fun _ => ?_) <;> conv => whnf))
        refine RetG.drop rfl rfl rfl ⟨rfl, ?_, rfl⟩
        rw [h5]; rfl
    have n92 := ne_num c 92 (by decide) h92
    by_cases h40 : c = 40
    · subst h40
      have hq := hnx (d + 1) 0 [40] (by rw [textL_cons, if_neg (by decide), if_pos rfl]; rfl) (by omega) (by omega) (by simp)
      conv => whnf
      repeat' (first
        | (rw [hg]; conv => whnf)
        | (refine And.intro ?_ ?_; (focus (first | omega | decide | (unfold inI64; omega) | (simp only [List.length_append, List.length_cons, List.length_nil] <;> omega) | (refine ⟨?_, ?_⟩ <;> omega) | (refine ⟨?_, ?_, ?_, ?_, ?_, ?_⟩ <;> first | rfl | trivial | decide | (simp [bytesAV_length] <;> omega)) | (simp <;> omega) | (unfold inI64; simp only [List.length_append, List.length_cons, List.length_nil] <;> omega))); conv => whnf)
        | (refine brD (fun _ => ?_) (fun _ => ?_) <;> first | (exfalso; omega) | (conv => whnf))
        | (refine brB (fun _ => ?_) (fun _ => ?_) <;> conv => whnf))
      refine ⟨(x + 1, d + 1, bs ++ [40]), hq, ?_⟩
      refine Wk.ver 1 1 (k := .cells 5 (bytesAV (bs ++ [40]))) rfl ?_ rfl ?_ rfl ?_
      · refine congrArg (fun z => some (Blk.mk 1 true (.cells 5 z))) ?_
        rw [List.drop_zero, Nat.mul_one, bytesAV_take, bytesAV_append]
        rfl
      · refine ⟨⟨_, rfl, .inl ⟨rfl, rfl⟩⟩, ⟨_, rfl, .inl ⟨rfl, rfl⟩⟩, ⟨_, rfl, .inr ⟨0, (bs ++ [40]).length, 1, ?_, rfl⟩⟩, ⟨_, rfl, .inl ⟨rfl, rfl⟩⟩, trivial⟩
        rw [List.length_append]; rfl
      · simp [nhH, nhB, nhL_bytes, nhL, nh, tkC]
    have n40 := ne_num c 40 (by decide) h40
    by_cases h41 : c = 41
    · subst h41
      cases d with
      | zero =>
        rw [textL_cons, if_neg (by decide), if_neg (by decide), if_pos rfl] at h5
        conv => whnf
        repeat' (first
          | (rw [hg]; conv => whnf)
          | (refine And.intro ?_ ?_; (focus (first | omega | decide | (unfold inI64; omega) | (simp only [List.length_append, List.length_cons, List.length_nil] <;> omega) | (refine ⟨?_, ?_⟩ <;> omega) | (refine ⟨?_, ?_, ?_, ?_, ?_, ?_⟩ <;> first | rfl | trivial | decide | (simp [bytesAV_length] <;> omega)) | (simp <;> omega) | (unfold inI64; simp only [List.length_append, List.length_cons, List.length_nil] <;> omega))); conv => whnf)
          | (refine brD (fun _ => ?_) (fun _ => ?_) <;> first | (exfalso; omega) | (conv => whnf))
          | (refine brB (fun _ => ?_) (fun _ => ?_) <;> conv => whnf)
          | (refine And.intro (ok_own bs) ?_; conv => whnf))
        refine RetG.drop rfl rfl rfl ⟨rfl, ?_, rfl⟩
        rw [h5, own_un]
        simp [rtAV]
        omega
      | succ d =>
        have hq := hnx d 0 [41] (by rw [textL_cons, if_neg (by decide), if_neg (by decide), if_pos rfl]; rfl) (by omega) (by omega) (by simp)
        have ed : ((d + 1 : Nat) : Int) - 1 = ((d : Nat) : Int) := by omega
        conv => whnf
        repeat' (first
          | (rw [hg]; conv => whnf)
          | (rw [ed]; conv => whnf)
          | (refine And.intro ?_ ?_; (focus (first | omega | decide | (unfold inI64; omega) | (simp only [List.length_append, List.length_cons, List.length_nil] <;> omega) | (refine ⟨?_, ?_⟩ <;> omega) | (refine ⟨?_, ?_, ?_, ?_, ?_, ?_⟩ <;> first | rfl | trivial | decide | (simp [bytesAV_length] <;> omega)) | (simp <;> omega) | (unfold inI64; simp only [List.length_append, List.length_cons, List.length_nil] <;> omega))); conv => whnf)
          | (refine brD (fun _ => ?_) (fun _ => ?_) <;> first | (exfalso; omega) | (conv => whnf))
          | (refine brB (fun _ => ?_) (fun _ => ?_) <;> conv => whnf))
        refine ⟨(x + 1, d, bs ++ [41]), hq, ?_⟩
        refine Wk.ver 1 1 (k := .cells 5 (bytesAV (bs ++ [41]))) rfl ?_ rfl ?_ rfl ?_
        · refine congrArg (fun z => some (Blk.mk 1 true (.cells 5 z))) ?_
          rw [List.drop_zero, Nat.mul_one, bytesAV_take, bytesAV_append]
          rfl
        · refine ⟨⟨_, rfl, .inl ⟨rfl, rfl⟩⟩, ⟨_, rfl, .inl ⟨rfl, rfl⟩⟩, ⟨_, rfl, .inr ⟨0, (bs ++ [41]).length, 1, ?_, rfl⟩⟩, ⟨_, rfl, .inl ⟨rfl, rfl⟩⟩, trivial⟩
          rw [List.length_append]; rfl
        · simp [nhH, nhB, nhL_bytes, nhL, nh, tkC]
    have n41 := ne_num c 41 (by decide) h41
    by_cases h13 : c = 13
    · subst h13
      by_cases h10 : ∃ t, s.drop (x + 1) = 10 :: t
      · obtain ⟨t, ht⟩ := h10
        have hx1 : x + 1 < s.length := by
          have : (s.drop (x + 1)).length = (10 :: t).length := by rw [ht]
          simp at this; omega
        have hd1 := List.drop_eq_getElem_cons hx1
        rw [ht] at hd1
        injection hd1 with i1 i2
        have hg1 := getD_at s (x + 1) hx1
        have e1 : (((x + 1 : Nat) : Int)).toNat = x + 1 := Int.toNat_natCast _
        have g1 : s.getD ((x : Int) + 1).toNat 0 = 10 := by rw [show ((x : Int) + 1) = ((x + 1 : Nat) : Int) from rfl, hg1, ← i1]
        have hq := hnx d 1 [10] (by
          rw [ht, textL_cons, if_neg (by decide), if_neg (by decide), if_neg (by decide), if_pos rfl, if_pos (by simp [List.isPrefixOf]), textL_cons, if_neg (by decide), if_neg (by decide), if_neg (by decide), if_neg (by decide), Option.map_map, i2]
          congr 1
          funext y
          simp; omega) (by omega) (by omega) (by simp)
        conv => whnf
        repeat' (first
          | (rw [hg]; conv => whnf)
          | (rw [g1]; conv => whnf)
          | (refine And.intro ?_ ?_; (focus (first | omega | decide | (unfold inI64; omega) | (simp only [List.length_append, List.length_cons, List.length_nil] <;> omega) | (refine ⟨?_, ?_⟩ <;> omega) | (refine ⟨?_, ?_, ?_, ?_, ?_, ?_⟩ <;> first | rfl | trivial | decide | (simp [bytesAV_length] <;> omega)) | (simp <;> omega) | (unfold inI64; simp only [List.length_append, List.length_cons, List.length_nil] <;> omega))); conv => whnf)
          | (refine brD (fun _ => ?_) (fun _ => ?_) <;> first | (exfalso; omega) | (conv => whnf))
          | (refine brB (fun _ => ?_) (fun _ => ?_) <;> conv => whnf))
        refine ⟨(x + 1 + 1, d, bs ++ [10]), hq, ?_⟩
        refine Wk.ver 1 1 (k := .cells 5 (bytesAV (bs ++ [10]))) rfl ?_ rfl ?_ rfl ?_
        · refine congrArg (fun z => some (Blk.mk 1 true (.cells 5 z))) ?_
          rw [List.drop_zero, Nat.mul_one, bytesAV_take, bytesAV_append]
          rfl
        · refine ⟨⟨_, rfl, .inl ⟨rfl, rfl⟩⟩, ⟨_, rfl, .inl ⟨rfl, rfl⟩⟩, ⟨_, rfl, .inr ⟨0, (bs ++ [10]).length, 1, ?_, rfl⟩⟩, ⟨_, rfl, .inl ⟨rfl, rfl⟩⟩, trivial⟩
          rw [List.length_append]; rfl
        · simp [nhH, nhB, nhL_bytes, nhL, nh, tkC]
      · have hnp : List.isPrefixOf [13, 10] ((13 : UInt8) :: s.drop (x + 1)) = false := by
          match hm : s.drop (x + 1) with
          | [] => simp [List.isPrefixOf]
          | e :: t =>
            have : e ≠ 10 := fun h => h10 ⟨t, by rw [hm, h]⟩
            have : ((10 : UInt8) == e) = false := by simpa using Ne.symm this
            simp [List.isPrefixOf, this]
        have hq := hnx d 0 [10] (by rw [textL_cons, if_neg (by decide), if_neg (by decide), if_neg (by decide), if_pos rfl, hnp]; rfl) (by omega) (by omega) (by simp)
        by_cases hx1 : x + 1 < s.length
        · have hd1 := List.drop_eq_getElem_cons hx1
          have hg1 := getD_at s (x + 1) hx1
          have g1 : s.getD ((x : Int) + 1).toNat 0 = s[x + 1] := hg1
          have hne : s[x + 1] ≠ 10 := fun h => h10 ⟨_, by rw [hd1, h]⟩
          have n10 := ne_num s[x + 1] 10 (by decide) hne
          conv => whnf
          repeat' (first
            | (rw [hg]; conv => whnf)
            | (rw [g1]; conv => whnf)
            | (refine And.intro ?_ ?_; (focus (first | omega | decide | (unfold inI64; omega) | (simp only [List.length_append, List.length_cons, List.length_nil] <;> omega) | (refine ⟨?_, ?_⟩ <;> omega) | (refine ⟨?_, ?_, ?_, ?_, ?_, ?_⟩ <;> first | rfl | trivial | decide | (simp [bytesAV_length] <;> omega)) | (simp <;> omega) | (unfold inI64; simp only [List.length_append, List.length_cons, List.length_nil] <;> omega))); conv => whnf)
            | (refine brD (fun _ => ?_) (fun _ => ?_) <;> first | (exfalso; omega) | (conv => whnf))
            | (refine brB (fun _ => ?_) (fun _ => ?_) <;> conv => whnf))
          refine ⟨(x + 1, d, bs ++ [10]), hq, ?_⟩
          refine Wk.ver 1 1 (k := .cells 5 (bytesAV (bs ++ [10]))) rfl ?_ rfl ?_ rfl ?_
          · refine congrArg (fun z => some (Blk.mk 1 true (.cells 5 z))) ?_
            rw [List.drop_zero, Nat.mul_one, bytesAV_take, bytesAV_append]
            rfl
          · refine ⟨⟨_, rfl, .inl ⟨rfl, rfl⟩⟩, ⟨_, rfl, .inl ⟨rfl, rfl⟩⟩, ⟨_, rfl, .inr ⟨0, (bs ++ [10]).length, 1, ?_, rfl⟩⟩, ⟨_, rfl, .inl ⟨rfl, rfl⟩⟩, trivial⟩
            rw [List.length_append]; rfl
          · simp [nhH, nhB, nhL_bytes, nhL, nh, tkC]
        · conv => whnf
          repeat' (first
            | (rw [hg]; conv => whnf)
            | (refine And.intro ?_ ?_; (focus (first | omega | decide | (unfold inI64; omega) | (simp only [List.length_append, List.length_cons, List.length_nil] <;> omega) | (refine ⟨?_, ?_⟩ <;> omega) | (refine ⟨?_, ?_, ?_, ?_, ?_, ?_⟩ <;> first | rfl | trivial | decide | (simp [bytesAV_length] <;> omega)) | (simp <;> omega) | (unfold inI64; simp only [List.length_append, List.length_cons, List.length_nil] <;> omega))); conv => whnf)
            | (refine brD (fun _ => ?_) (fun _ => ?_) <;> first | (exfalso; omega) | (conv => whnf))
            | (refine brB (fun _ => ?_) (fun _ => ?_) <;> conv => whnf))
          refine ⟨(x + 1, d, bs ++ [10]), hq, ?_⟩
          refine Wk.ver 1 1 (k := .cells 5 (bytesAV (bs ++ [10]))) rfl ?_ rfl ?_ rfl ?_
          · refine congrArg (fun z => some (Blk.mk 1 true (.cells 5 z))) ?_
            rw [List.drop_zero, Nat.mul_one, bytesAV_take, bytesAV_append]
            rfl
          · refine ⟨⟨_, rfl, .inl ⟨rfl, rfl⟩⟩, ⟨_, rfl, .inl ⟨rfl, rfl⟩⟩, ⟨_, rfl, .inr ⟨0, (bs ++ [10]).length, 1, ?_, rfl⟩⟩, ⟨_, rfl, .inl ⟨rfl, rfl⟩⟩, trivial⟩
            rw [List.length_append]; rfl
          · simp [nhH, nhB, nhL_bytes, nhL, nh, tkC]
    have n13 := ne_num c 13 (by decide) h13
    have hq := hnx d 0 [c] (by rw [textL_cons, if_neg h92, if_neg h40, if_neg h41, if_neg h13]; rfl) (by omega) (by omega) (by simp)
    conv => whnf
    repeat' (first
      | (rw [hg]; conv => whnf)
      | (refine And.intro ?_ ?_; (focus (first | omega | decide | (unfold inI64; omega) | (simp only [List.length_append, List.length_cons, List.length_nil] <;> omega) | (refine ⟨?_, ?_⟩ <;> omega) | (refine ⟨?_, ?_, ?_, ?_, ?_, ?_⟩ <;> first | rfl | trivial | decide | (simp [bytesAV_length] <;> omega)) | (simp <;> omega) | (unfold inI64; simp only [List.length_append, List.length_cons, List.length_nil] <;> omega))); conv => whnf)
      | (refine brD (fun _ => ?_) (fun _ => ?_) <;> first | (exfalso; omega) | (conv => whnf))
      | (refine brB (fun _ => ?_) (fun _ => ?_) <;> conv => whnf))
    refine ⟨(x + 1, d, bs ++ [c]), hq, ?_⟩
    refine Wk.ver 1 1 (k := .cells 5 (bytesAV (bs ++ [c]))) rfl ?_ rfl ?_ rfl ?_
    · refine congrArg (fun z => some (Blk.mk 1 true (.cells 5 z))) ?_
      rw [List.drop_zero, Nat.mul_one, bytesAV_take, bytesAV_append]
      rfl
    · refine ⟨⟨_, rfl, .inl ⟨rfl, rfl⟩⟩, ⟨_, rfl, .inl ⟨rfl, rfl⟩⟩, ⟨_, rfl, .inr ⟨0, (bs ++ [c]).length, 1, ?_, rfl⟩⟩, ⟨_, rfl, .inl ⟨rfl, rfl⟩⟩, trivial⟩
      rw [List.length_append]; rfl
    · simp [nhH, nhB, nhL_bytes, nhL, nh, tkC]
  · have hnil : s.drop x = [] := List.drop_eq_nil_of_le (by omega)
    rw [hnil, textL_nil] at h5
    conv => whnf
    repeat' (first
      | (refine And.intro ?_ ?_; (focus (first | omega | decide | (unfold inI64; omega) | (simp only [List.length_append, List.length_cons, List.length_nil] <;> omega) | (refine ⟨?_, ?_⟩ <;> omega) | (refine ⟨?_, ?_, ?_, ?_, ?_, ?_⟩ <;> first | rfl | trivial | decide | (simp [bytesAV_length] <;> omega)) | (simp <;> omega) | (unfold inI64; simp only [List.length_append, List.length_cons, List.length_nil] <;> omega))); conv => whnf)
      | (refine brD (fun _ => ?_) (fun _ => ?_) <;> first | (exfalso; omega) | (conv => whnf))
      | (refine brB (fun _ => ?_) (fun _ => ?_) <;> conv => whnf))
    refine RetG.drop rfl rfl rfl ⟨rfl, ?_, rfl⟩
    rw [h5]; rfl
end Ink.D

namespace Ink.D
open Go Go.Proofs
set_option maxRecDepth 100000
variable {E : Env} (hE : E.P = Tryz.prog)

def rdAV (k : Nat) (o : Except Int (List UInt8 × Nat)) : AV := match o with
  | .ok x => .tup [.str (pairL x.1), .int .i64 (k + x.2 : Nat), .int .i64 0]
  | .error e => .tup [.str [], .int .i64 0, .int .i64 e]

def iAV (l : List UInt8) : List AV := l.map fun u => .int .i64 (u.toNat : Int)
theorem iAV_len (l : List UInt8) : (iAV l).length = l.length := by simp [iAV]
theorem iAV_app (a b : List UInt8) : iAV (a ++ b) = iAV a ++ iAV b := by simp [iAV]
theorem iAV_take (l : List UInt8) : List.take l.length (iAV l) = iAV l := List.take_of_length_le (by simp [iAV])
theorem iAV_at (l : List UInt8) (j : Nat) (h : j < l.length) : (iAV l)[j]? = some (.int .i64 (l[j].toNat : Int)) := by simp [iAV, h]
theorem nhL_iAV (i : Nat) (l : List UInt8) : nhL i (iAV l) = true := by
  rw [nhL_iff]
  intro x hx
  obtain ⟨u, _, rfl⟩ := List.mem_map.mp hx
  rfl

theorem hex_facts (c v : UInt8) (h : hexN c = some v) : isWhite c = false ∧ c ≠ 62 ∧ v.toNat < 16 := by
  have key : ∀ c : UInt8, (hexN c).isSome = true → isWhite c = false ∧ c ≠ 62 := by
    intro c
    revert c
    refine u8all ?_
    decide +kernel
  have := key c (by rw [h]; rfl)
  exact ⟨this.1, this.2, (hexI_some h).2⟩

theorem pairL_pad : ∀ (l : List UInt8), l.length % 2 = 1 → pairL (l ++ [0]) = pairL l
  | [], h => by simp at h
  | [a], _ => by simp [pairL]
  | a :: b :: r, h => by
    have := pairL_pad r (by simp at h; omega)
    simp only [List.cons_append, pairL, this]

theorem pairL_drop (l : List UInt8) (j : Nat) (h : j + 1 < l.length) : pairL (l.drop j) = (l[j] <<< 4 ||| l[j + 1]) :: pairL (l.drop (j + 2)) := by
  rw [List.drop_eq_getElem_cons (by omega), List.drop_eq_getElem_cons (by omega)]
  rfl

include hE
theorem rdigits (s : List UInt8) (k : Nat) (hs : s.length < 1000000) (hk : k ≤ s.length) : PCalls E 143 [.str s, .int .i64 k] (· = rdAV k (digsL (s.drop k))) := by
  refine p143 hE fun l => ?_
  conv => whnf
  repeat' (first
    | (refine And.intro W1 ?_; conv => whnf)
    | (refine brD (fun _ => ?_) (fun _ => ?_) <;> first | (exfalso; omega) | (conv => whnf))
    | (refine brB (fun _ => ?_) (fun _ => ?_) <;> conv => whnf))
  refine LoopG.w (fun x : Nat × List UInt8 => k ≤ x.1 ∧ x.1 ≤ s.length ∧ x.2.length ≤ x.1 ∧ (∀ u ∈ x.2, u.toNat < 16) ∧ digsL (s.drop k) = (digsL (s.drop x.1)).map fun y => (x.2 ++ y.1, x.1 - k + y.2)) 68
    (fun x => [(0, .str s), (1, .int .i64 x.1), (7, .own 1 0 0 x.2.length 1)])
    (fun x => [⟨0, true, .frame l⟩, ⟨0, true, .cells 3 (iAV x.2)⟩]) (fun x => s.length - x.1) (k, []) ⟨by simp, by simp; omega, by simp, by simp, ?_⟩ ((Wk.ghost 7 1 3 rfl).trans (Wk.slots rfl ⟨rfl, rfl, rfl⟩)) ?_
  · cases digsL (s.drop k) <;> simp [Except.map]
  rintro ⟨x, ds⟩ ⟨h1, h2, h3, h4, h5⟩
  simp only at h1 h2 h3 h4 h5
  dsimp only
  have hil := iAV_len ds
  by_cases hx : x < s.length
  · have hg := getD_at s x hx
    have hd := List.drop_eq_getElem_cons hx
    rw [hd] at h5
    have hnx : ∀ (b : List UInt8), digsL (s[x] :: s.drop (x + 1)) = (digsL (s.drop (x + 1))).map (fun y => (b ++ y.1, 1 + y.2)) → b.length ≤ 1 → (∀ u ∈ b, u.toNat < 16) →
        ((k ≤ x + 1 ∧ x + 1 ≤ s.length ∧ (ds ++ b).length ≤ x + 1 ∧ (∀ u ∈ ds ++ b, u.toNat < 16) ∧ digsL (s.drop k) = (digsL (s.drop (x + 1))).map fun y => ((ds ++ b) ++ y.1, x + 1 - k + y.2)) ∧ s.length - (x + 1) < s.length - x) := by
      intro b he hb hu
      refine ⟨⟨by omega, by omega, by simp; omega, ?_, ?_⟩, by omega⟩
      · intro u hm
        rcases List.mem_append.mp hm with hm | hm
        · exact h4 u hm
        · exact hu u hm
      · rw [h5, he]
        cases digsL (s.drop (x + 1)) with
        | error e => rfl
        | ok y =>
          simp only [Except.map, List.append_assoc]
          congr 2
          omega
    generalize hc : s[x] = c at *
    cases hw : isWhite c with
    | true =>
      have hW := rwhite hE c
      rw [hw] at hW
      have hno : hexN c = none := by
        cases hh : hexN c with
        | none => rfl
        | some v => have := (hex_facts c v hh).1; rw [hw] at this; cases this
      have h62 : c ≠ 62 := fun e => by rw [e] at hw; revert hw; decide
      have hq := hnx [] (by rw [digsL, hno]; simp [h62, hw]) (by simp) (by simp)
      rw [List.append_nil] at hq
      conv => whnf
      repeat' (first
        | (rw [hg]; conv => whnf)
        | (refine And.intro W1 ?_; conv => whnf)
        | (refine brD (fun _ => ?_) (fun _ => ?_) <;> first | (exfalso; omega) | (conv => whnf))
        | (refine brB (fun _ => ?_) (fun _ => ?_) <;> conv => whnf)
        | ((first | refine CallG.e hW ?_ | refine CallD.e hW ?_ | refine CallQ.e hW ?_); conv => whnf))
      exact ⟨(x + 1, ds), hq, Wk.slots rfl ⟨rfl, rfl, rfl⟩⟩
    | false =>
      have hW := rwhite hE c
      rw [hw] at hW
      by_cases h62 : c = 62
      · subst h62
        have hno : hexN 62 = none := rfl
        rw [digsL, hno] at h5
        simp only [if_true] at h5
        have z62 : ((62 : UInt8).toNat : Int) = 62 := rfl
        have hmod : (ds.length : Int).tmod 2 = ((ds.length % 2 : Nat) : Int) := rfl
        by_cases hpar1 : ds.length % 2 = 1
        · rw [hpar1] at hmod
          have hLp : pairL (ds ++ [0]) = pairL ds := pairL_pad ds hpar1
          have hLe : (ds ++ [0]).length % 2 = 0 := by simp; omega
          have hLl : (ds ++ [0]).length ≤ 1000001 := by simp; omega
          have hLu : ∀ u ∈ (ds ++ [0]), u.toNat < 16 := by
            intro u hm; rcases List.mem_append.mp hm with hm | hm; exact h4 u hm; simp at hm; subst hm; decide
          conv => whnf
          repeat' (first
            | (rw [hg]; conv => whnf)
            | (rw [hmod]; conv => whnf)
            | (refine And.intro W1 ?_; conv => whnf)
            | (refine brD (fun _ => ?_) (fun _ => ?_) <;> first | (exfalso; omega) | (conv => whnf))
            | (refine brB (fun _ => ?_) (fun _ => ?_) <;> conv => whnf)
            | ((first | refine CallG.e hW ?_ | refine CallD.e hW ?_ | refine CallQ.e hW ?_); conv => whnf))
          refine LoopG.w (fun y : Nat × List UInt8 => y.1 % 2 = 0 ∧ y.1 ≤ (ds ++ [0]).length ∧ y.2.length ≤ y.1 ∧ pairL (ds ++ [0]) = y.2 ++ pairL ((ds ++ [0]).drop y.1)) 68
            (fun y => [(0, .str s), (1, .int .i64 x), (7, .own 1 0 0 (ds ++ [0]).length 1), (8, .own 2 0 0 y.2.length 1), (9, .int .i64 y.1)])
            (fun y => [⟨0, true, .frame l⟩, ⟨0, true, .cells 3 (iAV (ds ++ [0]))⟩, ⟨0, true, .cells 5 (bytesAV y.2)⟩]) (fun y => (ds ++ [0]).length - y.1) (0, []) ⟨by simp, by simp, by simp, by simp⟩ ?_ ?_
          · refine (Wk.ghost 8 1 5 rfl).trans ?_
            refine Wk.ver 1 1 (k := .cells 3 (iAV (ds ++ [0]))) rfl ?_ rfl ?_ rfl ?_
            · refine congrArg (fun z => some (Blk.mk 1 true (.cells 3 z))) ?_
              rw [List.drop_zero, Nat.mul_one, iAV_take, iAV_app]
              rfl
            · refine ⟨⟨_, rfl, .inl ⟨rfl, rfl⟩⟩, ⟨_, rfl, .inl ⟨rfl, rfl⟩⟩, ⟨_, rfl, .inr ⟨0, (ds ++ [0]).length, 1, ?_, rfl⟩⟩, ⟨_, rfl, .inl ⟨rfl, rfl⟩⟩, ⟨_, rfl, .inl ⟨rfl, rfl⟩⟩, trivial⟩
              rw [List.length_append]; rfl
            · simp [nhH, nhB, nhL_iAV, nhL, nh, bytesAV]
          rintro ⟨j, bs⟩ ⟨g1, g2, g3, g4⟩
          simp only at g1 g2 g3 g4
          dsimp only
          generalize hL : (ds ++ [0]) = L at *
          by_cases hj : j < L.length
          · have hj1 : j + 1 < L.length := by omega
            have q1 := iAV_at L j hj
            have q2 := iAV_at L (j + 1) hj1
            have u1 := hLu _ (List.getElem_mem hj)
            have u2 := hLu _ (List.getElem_mem hj1)
            have hpd := pairL_drop L j hj1
            generalize L[j] = a at *
            generalize L[j + 1] = b at *
            have f1 : (iAV L)[0 + ((j : Nat) : Int).toNat * 1]? = some (.int .i64 (a.toNat : Int)) := by
              rw [← q1]; congr 1; omega
            have f2 : (iAV L)[0 + (((j : Nat) : Int) + 1).toNat * 1]? = some (.int .i64 (b.toNat : Int)) := by
              rw [← q2]; congr 1; omega
            have hval := join16 a b u1 u2
            conv => whnf
            repeat' (first
              | (rw [hval]; conv => whnf)
              | (refine And.intro W1 ?_; conv => whnf)
              | (refine brD (fun _ => ?_) (fun _ => ?_) <;> first | (exfalso; omega) | (conv => whnf))
              | (refine brB (fun _ => ?_) (fun _ => ?_) <;> conv => whnf)
              | (refine stepOk (load_at rfl rfl f1) ?_; conv => whnf)
              | (refine stepOk (load_at rfl rfl f2) ?_; conv => whnf))
            refine ⟨(j + 2, bs ++ [a <<< 4 ||| b]), ⟨⟨by simp; omega, by simp; omega, by simp; omega, ?_⟩, by simp; omega⟩, ?_⟩
            · rw [g4, hpd]; simp
            refine Wk.ver 2 1 (k := .cells 5 (bytesAV (bs ++ [a <<< 4 ||| b]))) rfl ?_ rfl ?_ rfl ?_
            · refine congrArg (fun z => some (Blk.mk 1 true (.cells 5 z))) ?_
              rw [List.drop_zero, Nat.mul_one, bytesAV_take, bytesAV_append]
              rfl
            · refine ⟨⟨_, rfl, .inl ⟨rfl, rfl⟩⟩, ⟨_, rfl, .inl ⟨rfl, rfl⟩⟩, ⟨_, rfl, .inl ⟨rfl, rfl⟩⟩, ⟨_, rfl, .inr ⟨0, (bs ++ [a <<< 4 ||| b]).length, 1, ?_, rfl⟩⟩, ⟨_, rfl, .inl ⟨rfl, rfl⟩⟩, trivial⟩
              rw [List.length_append]; rfl
            · simp [nhH, nhB, nhL_bytes, nhL, nh, tkC, nhL_iAV]
          · have : j = L.length := by omega
            subst this
            conv => whnf
            repeat' (first
              | (refine And.intro W1 ?_; conv => whnf)
              | (refine brD (fun _ => ?_) (fun _ => ?_) <;> first | (exfalso; omega) | (conv => whnf))
              | (refine brB (fun _ => ?_) (fun _ => ?_) <;> conv => whnf)
              | (refine And.intro (ok_own bs) ?_; conv => whnf))
            refine RetG.drop rfl rfl rfl ⟨rfl, ?_, rfl⟩
            rw [h5, own_un]
            simp only [rdAV, Except.map, List.append_nil]
            rw [← hLp, g4]
            simp [pairL]
            omega
        by_cases hpar0 : ds.length % 2 = 0
        · rw [hpar0] at hmod
          have hLp : pairL ds = pairL ds := rfl
          have hLe : ds.length % 2 = 0 := by omega
          have hLl : ds.length ≤ 1000001 := by omega
          have hLu : ∀ u ∈ ds, u.toNat < 16 := by
            exact h4
          conv => whnf
          repeat' (first
            | (rw [hg]; conv => whnf)
            | (rw [hmod]; conv => whnf)
            | (refine And.intro W1 ?_; conv => whnf)
            | (refine brD (fun _ => ?_) (fun _ => ?_) <;> first | (exfalso; omega) | (conv => whnf))
            | (refine brB (fun _ => ?_) (fun _ => ?_) <;> conv => whnf)
            | ((first | refine CallG.e hW ?_ | refine CallD.e hW ?_ | refine CallQ.e hW ?_); conv => whnf))
          refine LoopG.w (fun y : Nat × List UInt8 => y.1 % 2 = 0 ∧ y.1 ≤ ds.length ∧ y.2.length ≤ y.1 ∧ pairL ds = y.2 ++ pairL (ds.drop y.1)) 68
            (fun y => [(0, .str s), (1, .int .i64 x), (7, .own 1 0 0 ds.length 1), (8, .own 2 0 0 y.2.length 1), (9, .int .i64 y.1)])
            (fun y => [⟨0, true, .frame l⟩, ⟨0, true, .cells 3 (iAV ds)⟩, ⟨0, true, .cells 5 (bytesAV y.2)⟩]) (fun y => ds.length - y.1) (0, []) ⟨by simp, by simp, by simp, by simp⟩ ?_ ?_
          · exact (Wk.ghost 8 1 5 rfl).trans (Wk.slots rfl ⟨rfl, rfl, rfl, rfl, rfl⟩)
          rintro ⟨j, bs⟩ ⟨g1, g2, g3, g4⟩
          simp only at g1 g2 g3 g4
          dsimp only
          generalize hL : ds = L at *
          by_cases hj : j < L.length
          · have hj1 : j + 1 < L.length := by omega
            have q1 := iAV_at L j hj
            have q2 := iAV_at L (j + 1) hj1
            have u1 := hLu _ (List.getElem_mem hj)
            have u2 := hLu _ (List.getElem_mem hj1)
            have hpd := pairL_drop L j hj1
            generalize L[j] = a at *
            generalize L[j + 1] = b at *
            have f1 : (iAV L)[0 + ((j : Nat) : Int).toNat * 1]? = some (.int .i64 (a.toNat : Int)) := by
              rw [← q1]; congr 1; omega
            have f2 : (iAV L)[0 + (((j : Nat) : Int) + 1).toNat * 1]? = some (.int .i64 (b.toNat : Int)) := by
              rw [← q2]; congr 1; omega
            have hval := join16 a b u1 u2
            conv => whnf
            repeat' (first
              | (rw [hval]; conv => whnf)
              | (refine And.intro W1 ?_; conv => whnf)
              | (refine brD (fun _ => ?_) (fun _ => ?_) <;> first | (exfalso; omega) | (conv => whnf))
              | (refine brB (fun _ => ?_) (fun _ => ?_) <;> conv => whnf)
              | (refine stepOk (load_at rfl rfl f1) ?_; conv => whnf)
              | (refine stepOk (load_at rfl rfl f2) ?_; conv => whnf))
            refine ⟨(j + 2, bs ++ [a <<< 4 ||| b]), ⟨⟨by simp; omega, by simp; omega, by simp; omega, ?_⟩, by simp; omega⟩, ?_⟩
            · rw [g4, hpd]; simp
            refine Wk.ver 2 1 (k := .cells 5 (bytesAV (bs ++ [a <<< 4 ||| b]))) rfl ?_ rfl ?_ rfl ?_
            · refine congrArg (fun z => some (Blk.mk 1 true (.cells 5 z))) ?_
              rw [List.drop_zero, Nat.mul_one, bytesAV_take, bytesAV_append]
              rfl
            · refine ⟨⟨_, rfl, .inl ⟨rfl, rfl⟩⟩, ⟨_, rfl, .inl ⟨rfl, rfl⟩⟩, ⟨_, rfl, .inl ⟨rfl, rfl⟩⟩, ⟨_, rfl, .inr ⟨0, (bs ++ [a <<< 4 ||| b]).length, 1, ?_, rfl⟩⟩, ⟨_, rfl, .inl ⟨rfl, rfl⟩⟩, trivial⟩
              rw [List.length_append]; rfl
            · simp [nhH, nhB, nhL_bytes, nhL, nh, tkC, nhL_iAV]
          · have : j = L.length := by omega
            subst this
            conv => whnf
            repeat' (first
              | (refine And.intro W1 ?_; conv => whnf)
              | (refine brD (fun _ => ?_) (fun _ => ?_) <;> first | (exfalso; omega) | (conv => whnf))
              | (refine brB (fun _ => ?_) (fun _ => ?_) <;> conv => whnf)
              | (refine And.intro (ok_own bs) ?_; conv => whnf))
            refine RetG.drop rfl rfl rfl ⟨rfl, ?_, rfl⟩
            rw [h5, own_un]
            simp only [rdAV, Except.map, List.append_nil]
            rw [← hLp, g4]
            simp [pairL]
            omega
        omega
      · have n62 := ne_num c 62 (by decide) h62
        have hH := rhex hE c
        cases hh : hexN c with
        | none =>
          rw [hexI_none hh] at hH
          rw [digsL, hh] at h5
          conv => whnf
          repeat' (first
            | (rw [hg]; conv => whnf)
            | (refine And.intro W1 ?_; conv => whnf)
            | (refine brD (fun _ => ?_) (fun _ => ?_) <;> first | (exfalso; omega) | (conv => whnf))
            | (refine brB (fun _ => ?_) (fun _ => ?_) <;> conv => whnf)
            | ((first | refine CallG.e hW ?_ | refine CallD.e hW ?_ | refine CallQ.e hW ?_); conv => whnf)
            | ((first | refine CallG.e hH ?_ | refine CallD.e hH ?_ | refine CallQ.e hH ?_); conv => whnf))
          refine RetG.drop rfl rfl rfl ⟨rfl, ?_, rfl⟩
          rw [h5, if_neg h62, hw]; rfl
        | some v =>
          obtain ⟨i1, i2⟩ := hexI_some hh
          rw [i1] at hH
          have hq := hnx [v] (by rw [digsL, hh]; rfl) (by simp) (by simpa using i2)
          conv => whnf
          repeat' (first
            | (rw [hg]; conv => whnf)
            | (refine And.intro W1 ?_; conv => whnf)
            | (refine brD (fun _ => ?_) (fun _ => ?_) <;> first | (exfalso; omega) | (conv => whnf))
            | (refine brB (fun _ => ?_) (fun _ => ?_) <;> conv => whnf)
            | ((first | refine CallG.e hW ?_ | refine CallD.e hW ?_ | refine CallQ.e hW ?_); conv => whnf)
            | ((first | refine CallG.e hH ?_ | refine CallD.e hH ?_ | refine CallQ.e hH ?_); conv => whnf))
          refine ⟨(x + 1, ds ++ [v]), hq, ?_⟩
          refine Wk.ver 1 1 (k := .cells 3 (iAV (ds ++ [v]))) rfl ?_ rfl ?_ rfl ?_
          · refine congrArg (fun z => some (Blk.mk 1 true (.cells 3 z))) ?_
            rw [List.drop_zero, Nat.mul_one, iAV_take, iAV_app]
            rfl
          · refine ⟨⟨_, rfl, .inl ⟨rfl, rfl⟩⟩, ⟨_, rfl, .inl ⟨rfl, rfl⟩⟩, ⟨_, rfl, .inr ⟨0, (ds ++ [v]).length, 1, ?_, rfl⟩⟩, trivial⟩
            rw [List.length_append]; rfl
          · simp [nhH, nhB, nhL_iAV, nhL, nh]
  · have hnil : s.drop x = [] := List.drop_eq_nil_of_le (by omega)
    rw [hnil] at h5
    conv => whnf
    repeat' (first
      | (refine And.intro W1 ?_; conv => whnf)
      | (refine brD (fun _ => ?_) (fun _ => ?_) <;> first | (exfalso; omega) | (conv => whnf))
      | (refine brB (fun _ => ?_) (fun _ => ?_) <;> conv => whnf))
    refine RetG.drop rfl rfl rfl ⟨rfl, ?_, rfl⟩
    rw [h5]; rfl
end Ink.D

namespace Ink.D
open Go Go.Proofs
set_option maxRecDepth 100000
variable {E : Env} (hE : E.P = Tryz.prog)

include hE
theorem rmay (f : Int) : PCalls E 109 [.int .i64 f] (· = .bool (mayF f)) := by
  refine p109 hE fun l => ?_
  conv => whnf
  repeat' (first
    | (refine And.intro W1 ?_; conv => whnf)
    | (refine brD (fun _ => ?_) (fun _ => ?_) <;> first | (exfalso; omega) | (conv => whnf))
    | (refine brB (fun _ => ?_) (fun _ => ?_) <;> conv => whnf))
  all_goals
    rename_i h
    refine RetG.q ⟨rfl, ?_, rfl⟩
    simp [mayF]
    omega

theorem rtold (f : Int) : PCalls E 166 [.int .i64 f] (· = fxAV (told f)) := by
  refine p166 hE fun l => ?_
  conv => whnf
  repeat' (first
    | (refine And.intro W1 ?_; conv => whnf)
    | (refine brD (fun _ => ?_) (fun _ => ?_) <;> first | (exfalso; omega) | (conv => whnf))
    | (refine brB (fun _ => ?_) (fun _ => ?_) <;> conv => whnf)
    | ((first | refine CallG.e (rmay hE f) ?_ | refine CallD.e (rmay hE f) ?_ | refine CallQ.e (rmay hE f) ?_); conv => whnf))
  all_goals
    rename_i h
    refine RetG.q ⟨rfl, ?_, rfl⟩
    simp_all [told]
    rfl

theorem rdigs (s : List UInt8) (hs : s.length < big) : PCalls E 243 [.str s] (· = .int .i64 ((s.takeWhile isDig).length : Nat)) := by
  unfold big at hs
  have htw := tw_le isDig s
  refine p243 hE fun l => ?_
  conv => whnf
  repeat' (first
    | (refine And.intro W1 ?_; conv => whnf)
    | (refine brD (fun _ => ?_) (fun _ => ?_) <;> first | (exfalso; omega) | (conv => whnf))
    | (refine brB (fun _ => ?_) (fun _ => ?_) <;> conv => whnf))
  refine LoopG.s (fun x : Nat => x ≤ s.length ∧ (s.takeWhile isDig).length = x + ((s.drop x).takeWhile isDig).length) 23 (fun x => [(0, .str s), (2, .int .i64 0), (3, .int .i64 x)]) (fun _ => frm l) (fun x => s.length - x) 0 ⟨by simp, by simp⟩ rfl ⟨rfl, rfl, rfl⟩ rfl ?_
  rintro x ⟨h1, h2⟩
  by_cases hx : x < s.length
  · have hg := getD_at s x hx
    have hd := List.drop_eq_getElem_cons hx
    rw [hd] at h2
    by_cases hq : isDig s[x] = true
    · rw [List.takeWhile_cons_of_pos hq] at h2
      simp only [isDig, Bool.and_eq_true, decide_eq_true_eq] at hq
      generalize s[x] = c at *
      conv => whnf
      repeat' (first
        | (rw [hg]; conv => whnf)
        | (refine And.intro W1 ?_; conv => whnf)
        | (refine brD (fun _ => ?_) (fun _ => ?_) <;> first | (exfalso; omega) | (conv => whnf))
        | (refine brB (fun _ => ?_) (fun _ => ?_) <;> conv => whnf))
      simp only [List.length_cons] at h2
      exact ⟨x + 1, ⟨⟨by omega, by omega⟩, by omega⟩, Wk.slots rfl ⟨rfl, rfl, rfl⟩⟩
    · rw [List.takeWhile_cons_of_neg hq] at h2
      have hq : ¬ (48 ≤ s[x].toNat ∧ s[x].toNat ≤ 57) := by
        simpa [isDig] using hq
      generalize s[x] = c at *
      conv => whnf
      repeat' (first
        | (rw [hg]; conv => whnf)
        | (refine And.intro W1 ?_; conv => whnf)
        | (refine brD (fun _ => ?_) (fun _ => ?_) <;> first | (exfalso; omega) | (conv => whnf))
        | (refine brB (fun _ => ?_) (fun _ => ?_) <;> conv => whnf))
      all_goals
        refine RetG.q ⟨rfl, ?_, rfl⟩
        rw [h2]; simp
  · have : x = s.length := by omega
    subst this
    conv => whnf
    repeat' (first
      | (refine And.intro W1 ?_; conv => whnf)
      | (refine brD (fun _ => ?_) (fun _ => ?_) <;> first | (exfalso; omega) | (conv => whnf))
      | (refine brB (fun _ => ?_) (fun _ => ?_) <;> conv => whnf))
    refine RetG.q ⟨rfl, ?_, rfl⟩
    rw [h2]; simp

omit hE in
theorem cutL_app (a b : List UInt8) (h : ∀ x ∈ a, x ≠ 46) : cutL (a ++ b) 46 = (a ++ (cutL b 46).1, (cutL b 46).2.1, (cutL b 46).2.2) := by
  induction a with
  | nil => rfl
  | cons c r ih =>
    rw [List.cons_append, cutL, if_neg (h c (by simp)), ih (fun x hx => h x (by simp [hx]))]
    rfl

omit hE in
theorem dig_ne (a : List UInt8) (h : a.all isDig = true) : ∀ x ∈ a, x ≠ 46 := by
  intro x hx e
  have := List.all_eq_true.mp h x hx
  rw [e] at this
  revert this; decide

omit hE in
theorem tw_dig (p : UInt8 → Bool) (u : List UInt8) : (u.takeWhile p).all p = true := by
  rw [List.all_eq_true]
  intro x hx
  induction u with
  | nil => simp at hx
  | cons c r ih =>
    by_cases h : p c = true
    · rw [List.takeWhile_cons_of_pos h] at hx
      rcases List.mem_cons.mp hx with rfl | hx
      · exact h
      · exact ih hx
    · rw [List.takeWhile_cons_of_neg h] at hx; simp at hx

omit hE in
theorem pad4 (p : List UInt8) : (p ++ [48, 48, 48, 48]).take 3 = (p ++ [48, 48, 48]).take 3 := by
  match p with
  | [] => rfl
  | [a] => rfl
  | [a, b] => rfl
  | a :: b :: c :: r => simp

omit hE in
theorem numL_mono (a b : List UInt8) : numL a ≤ numL (a ++ b) := by
  have key : ∀ (b : List UInt8) (n m : Nat), n ≤ m → n ≤ b.foldl (fun n c => n * 10 + (c.toNat - 48)) m := by
    intro b
    induction b with
    | nil => intro n m h; exact h
    | cons c r ih => intro n m h; exact ih n _ (by show n ≤ m * 10 + _; omega)
  unfold numL
  rw [List.foldl_append]
  exact key b _ _ (Nat.le_refl _)

omit hE in
theorem told_big (n : Nat) (mi : Bool) (h : 1099511627776 ≤ n) : told (if mi then 0 - (n : Int) else n) = (0, 2) := by
  have : mayF (if mi then 0 - (n : Int) else n) = false := by
    cases mi <;> simp [mayF] <;> omega
  unfold told
  rw [if_neg (by rw [this]; decide)]

omit hE in
theorem parseW_rest (u : List UInt8) (mi : Bool) : parseW mi (cutL u 46).1 (cutL u 46).2.1 = match u.dropWhile isDig with
    | [] => if u = [] then (0, 3) else told (if mi then 0 - (numW u [] : Int) else numW u [])
    | c :: t => if c = 46 then
        if (t.takeWhile isDig).length < t.length ∨ u.takeWhile isDig ++ t = [] then (0, 3) else told (if mi then 0 - (numW (u.takeWhile isDig) t : Int) else numW (u.takeWhile isDig) t)
      else (0, 3) := by
  have hu : u = u.takeWhile isDig ++ u.dropWhile isDig := (List.takeWhile_append_dropWhile).symm
  have hw := tw_dig isDig u
  have hc := cutL_app (u.takeWhile isDig) (u.dropWhile isDig) (dig_ne _ hw)
  rw [← hu] at hc
  rw [hc]
  cases hr : u.dropWhile isDig with
  | nil =>
    rw [hr, List.append_nil] at hu
    rw [← hu] at hw ⊢
    simp only [cutL, List.append_nil]
    unfold parseW
    by_cases h0 : u = []
    · subst h0; simp
    · rw [if_pos ⟨hw, rfl, by simpa using h0⟩, if_neg h0]
  | cons c t =>
    have hcd : isDig c = false := by
      have := List.head_dropWhile_not (p := isDig) (l := u) (by rw [hr]; simp)
      simpa [hr] using this
    by_cases h46 : c = 46
    · subst h46
      simp only [cutL, if_true, List.append_nil]
      unfold parseW
      have ht : t.all isDig = true ↔ ¬ (t.takeWhile isDig).length < t.length := by
        rw [← dropWhile_all]
        have hl : (t.takeWhile isDig).length + (t.dropWhile isDig).length = t.length := by
          rw [← List.length_append, List.takeWhile_append_dropWhile]
        constructor
        · intro h; rw [h] at hl; simp at hl; omega
        · intro h; exact List.eq_nil_of_length_eq_zero (by omega)
      by_cases hg : (t.takeWhile isDig).length < t.length ∨ u.takeWhile isDig ++ t = []
      · rw [if_pos hg, if_neg]
        rintro ⟨_, q2, q3⟩
        rcases hg with hg | hg
        · exact (ht.mp q2) hg
        · exact q3 hg
      · rw [if_neg hg, if_pos]
        exact ⟨hw, ht.mpr (fun h => hg (.inl h)), fun h => hg (.inr h)⟩
    · dsimp only
      rw [if_neg h46]
      have : (u.takeWhile isDig ++ (cutL (c :: t) 46).1).all isDig = false := by
        rw [List.all_append, hw, Bool.true_and]
        rw [cutL, if_neg h46]
        simp [hcd]
      unfold parseW
      rw [if_neg]
      rintro ⟨q1, _⟩
      rw [this] at q1
      cases q1

set_option maxHeartbeats 2000000 in
theorem rparse (s : List UInt8) (hs : s.length < big) : PCalls E 210 [.str s] (· = fxAV (parseL s)) := by
  have hu : (unsL s).1.length ≤ s.length := by
    unfold unsL; split
    · simp
    · split
      · simp
      · split <;> simp
  unfold big at hs
  refine p210 hE fun l => ?_
  refine wpc_join 4 117 (fun x : List UInt8 × Bool => s.length ≤ 400 ∧ x = unsL s) (fun x => [(0, .str x.1), (4, .bool x.2)]) (fun _ => frm l) ?_ ?_
  · by_cases h400 : 400 < s.length
    · have hsp : parseL s = (0, 2) := by unfold parseL; rw [if_pos h400]
      rw [hsp]
      conv => whnf
      repeat' (first
        | (refine And.intro W1 ?_; conv => whnf)
        | (refine brD (fun _ => ?_) (fun _ => ?_) <;> first | (exfalso; omega) | (conv => whnf))
        | (refine brB (fun _ => ?_) (fun _ => ?_) <;> conv => whnf))
      exact RetG.q ⟨rfl, rfl, rfl⟩
    · match s, h400 with
      | [], _ =>
        conv => whnf
        repeat' (first
          | (refine And.intro W1 ?_; conv => whnf)
          | (refine brD (fun _ => ?_) (fun _ => ?_) <;> first | (exfalso; omega) | (conv => whnf))
          | (refine brB (fun _ => ?_) (fun _ => ?_) <;> conv => whnf))
        exact ⟨([], false), ⟨by simp, rfl⟩, rfl, rfl⟩
      | c :: r, h400 =>
        have g0 : (c :: r).getD (Int.toNat 0) 0 = c := rfl
        by_cases h45 : c = 45
        · subst h45
          conv => whnf
          repeat' (first
            | (rw [g0]; conv => whnf)
            | (refine And.intro W1 ?_; conv => whnf)
            | (refine brD (fun _ => ?_) (fun _ => ?_) <;> first | (exfalso; omega) | (conv => whnf))
            | (refine brB (fun _ => ?_) (fun _ => ?_) <;> conv => whnf))
          exact ⟨(r, true), ⟨by omega, rfl⟩, rfl, rfl⟩
        have n45 := ne_num c 45 (by decide) h45
        by_cases h43 : c = 43
        · subst h43
          conv => whnf
          repeat' (first
            | (rw [g0]; conv => whnf)
            | (refine And.intro W1 ?_; conv => whnf)
            | (refine brD (fun _ => ?_) (fun _ => ?_) <;> first | (exfalso; omega) | (conv => whnf))
            | (refine brB (fun _ => ?_) (fun _ => ?_) <;> conv => whnf))
          exact ⟨(r, false), ⟨by omega, rfl⟩, rfl, rfl⟩
        have n43 := ne_num c 43 (by decide) h43
        have d45 : decide ((c.toNat : Int) = 45) = false := decide_eq_false n45
        conv => whnf
        repeat' (first
          | (rw [g0]; conv => whnf)
          | (rw [d45]; conv => whnf)
          | (refine And.intro W1 ?_; conv => whnf)
          | (refine brD (fun _ => ?_) (fun _ => ?_) <;> first | (exfalso; omega) | (conv => whnf))
          | (refine brB (fun _ => ?_) (fun _ => ?_) <;> conv => whnf))
        exact ⟨(c :: r, false), ⟨by omega, by simp [unsL, h45, h43]⟩, rfl, rfl⟩
  rintro ⟨u, mi⟩ junk ⟨h400, hx⟩
  have hsp : parseL s = parseW mi (cutL u 46).1 (cutL u 46).2.1 := by
    unfold parseL
    rw [if_neg (by omega), ← hx]
  rw [parseW_rest] at hsp
  rw [← hx] at hu
  dsimp only at hu ⊢
  refine wpc_join 5 117 (fun x : List UInt8 × List UInt8 => x.1.all isDig = true ∧ x.2.all isDig = true ∧ x.1.length + x.2.length ≤ 400 ∧ parseL s = told (if mi then 0 - (numW x.1 x.2 : Int) else numW x.1 x.2))
    (fun x => [(4, .bool mi), (6, .str x.1), (7, .str x.2)]) (fun _ => frm l) ?_ ?_
  · have hnl : ([] : List UInt8).length = 0 := rfl
    have hn := rdigs hE u (by unfold big; omega)
    have htw := take_tw isDig u
    have hw := tw_dig isDig u
    have huw : u = u.takeWhile isDig ++ u.dropWhile isDig := (List.takeWhile_append_dropWhile).symm
    generalize hwg : u.takeWhile isDig = w at *
    have e1 : u.take (((w.length : Nat) : Int)).toNat = w := by rw [Int.toNat_natCast]; exact htw
    have hlw : u.length = w.length + (u.dropWhile isDig).length := by
      have := congrArg List.length huw
      simpa using this
    cases hr : u.dropWhile isDig with
    | nil =>
      rw [hr] at hsp hlw huw
      simp only [List.length_nil] at hlw
      rw [List.append_nil] at huw
      dsimp only at hsp
      by_cases h0 : u = []
      · rw [if_pos h0] at hsp
        have hw0 : w.length = 0 := by rw [← huw, h0]; rfl
        rw [hsp]
        conv => whnf
        repeat' (first
          | (rw [e1]; conv => whnf)
          | (refine And.intro W1 ?_; conv => whnf)
          | (refine brD (fun _ => ?_) (fun _ => ?_) <;> first | (exfalso; omega) | (conv => whnf))
          | (refine brB (fun _ => ?_) (fun _ => ?_) <;> conv => whnf)
          | ((first | refine CallG.e hn ?_ | refine CallD.e hn ?_ | refine CallQ.e hn ?_); conv => whnf))
        exact RetG.q ⟨rfl, rfl, rfl⟩
      · rw [if_neg h0] at hsp
        have hul : 0 < u.length := List.length_pos_iff.mpr h0
        conv => whnf
        repeat' (first
          | (rw [e1]; conv => whnf)
          | (refine And.intro W1 ?_; conv => whnf)
          | (refine brD (fun _ => ?_) (fun _ => ?_) <;> first | (exfalso; omega) | (conv => whnf))
          | (refine brB (fun _ => ?_) (fun _ => ?_) <;> conv => whnf)
          | ((first | refine CallG.e hn ?_ | refine CallD.e hn ?_ | refine CallQ.e hn ?_); conv => whnf))
        refine ⟨(w, []), ⟨hw, rfl, by simp; omega, ?_⟩, rfl, rfl⟩
        rw [hsp, huw]
    | cons c t =>
      rw [hr] at hsp hlw huw
      simp only [List.length_cons] at hlw
      dsimp only at hsp
      have hgc : u.getD (((w.length : Nat) : Int)).toNat 0 = c := by
        rw [Int.toNat_natCast, huw]; simp
      by_cases h46 : c = 46
      · subst h46
        rw [if_pos rfl] at hsp
        have hdt : u.drop (((w.length : Nat) : Int) + 1).toNat = t := by
          have : (((w.length : Nat) : Int) + 1).toNat = w.length + 1 := by omega
          rw [this, huw, List.drop_append]; simp
        have hn2 := rdigs hE t (by unfold big; omega)
        have ht2 := take_tw isDig t
        have htl := tw_le isDig t
        have htp := tw_dig isDig t
        have hteq : t.takeWhile isDig = t ∨ (t.takeWhile isDig).length < t.length := by
          rcases Nat.lt_or_ge (t.takeWhile isDig).length t.length with h | h
          · exact .inr h
          · left
            have := ht2
            rw [List.take_of_length_le h] at this
            exact this.symm
        generalize t.takeWhile isDig = p at *
        have hpt : (u.drop (((w.length : Nat) : Int) + 1).toNat).take ((((w.length : Nat) : Int) + 1 + ((p.length : Nat) : Int)).toNat - (((w.length : Nat) : Int) + 1).toNat) = p := by
          have : (((w.length : Nat) : Int) + 1 + ((p.length : Nat) : Int)).toNat - (((w.length : Nat) : Int) + 1).toNat = p.length := by omega
          rw [this, hdt, ht2]
        by_cases hbad : p.length < t.length ∨ w ++ t = []
        · rw [if_pos hbad] at hsp
          rw [hsp]
          have hb2 : p.length < t.length ∨ (w.length = 0 ∧ p.length = 0) := by
            rcases hbad with h | h
            · exact .inl h
            · right
              obtain ⟨a1, a2⟩ := List.append_eq_nil_iff.mp h
              rw [a2] at htl
              exact ⟨by rw [a1]; rfl, by simpa using htl⟩
          conv => whnf
          repeat' (first
            | (rw [e1]; conv => whnf)
            | (rw [hgc]; conv => whnf)
            | (rw [hpt]; conv => whnf)
            | (rw [hdt]; conv => whnf)
            | (refine And.intro W1 ?_; conv => whnf)
            | (refine brD (fun _ => ?_) (fun _ => ?_) <;> first | (exfalso; omega) | (conv => whnf))
            | (refine brB (fun _ => ?_) (fun _ => ?_) <;> conv => whnf)
            | ((first | refine CallG.e hn ?_ | refine CallD.e hn ?_ | refine CallQ.e hn ?_); conv => whnf)
            | ((first | refine CallG.e hn2 ?_ | refine CallD.e hn2 ?_ | refine CallQ.e hn2 ?_); conv => whnf))
          all_goals exact RetG.q ⟨rfl, rfl, rfl⟩
        · rw [if_neg hbad] at hsp
          have hpe : p = t := by
            rcases hteq with h | h
            · exact h
            · exact absurd (.inl h) hbad
          have hb2 : ¬ (w.length = 0 ∧ p.length = 0) := by
            intro h
            apply hbad
            right
            rw [List.eq_nil_of_length_eq_zero h.1, ← hpe, List.eq_nil_of_length_eq_zero h.2]; rfl
          have hpl : p.length = t.length := by rw [hpe]
          conv => whnf
          repeat' (first
            | (rw [e1]; conv => whnf)
            | (rw [hgc]; conv => whnf)
            | (rw [hpt]; conv => whnf)
            | (rw [hdt]; conv => whnf)
            | (refine And.intro W1 ?_; conv => whnf)
            | (refine brD (fun _ => ?_) (fun _ => ?_) <;> first | (exfalso; omega) | (conv => whnf))
            | (refine brB (fun _ => ?_) (fun _ => ?_) <;> conv => whnf)
            | ((first | refine CallG.e hn ?_ | refine CallD.e hn ?_ | refine CallQ.e hn ?_); conv => whnf)
            | ((first | refine CallG.e hn2 ?_ | refine CallD.e hn2 ?_ | refine CallQ.e hn2 ?_); conv => whnf))
          exact ⟨(w, p), ⟨hw, htp, by dsimp only; omega, by rw [hsp, hpe]⟩, rfl, rfl⟩
      · rw [if_neg h46] at hsp
        have n46 := ne_num c 46 (by decide) h46
        rw [hsp]
        conv => whnf
        repeat' (first
          | (rw [e1]; conv => whnf)
          | (rw [hgc]; conv => whnf)
          | (refine And.intro W1 ?_; conv => whnf)
          | (refine brD (fun _ => ?_) (fun _ => ?_) <;> first | (exfalso; omega) | (conv => whnf))
          | (refine brB (fun _ => ?_) (fun _ => ?_) <;> conv => whnf)
          | ((first | refine CallG.e hn ?_ | refine CallD.e hn ?_ | refine CallQ.e hn ?_); conv => whnf))
        exact RetG.q ⟨rfl, rfl, rfl⟩
  · rintro ⟨w, p⟩ junk2 ⟨hw, hp, hl4, hsp⟩
    dsimp only at hw hp hl4 hsp ⊢
    have hp3 : ((p ++ [48, 48, 48, 48]).take 3).length = 3 := by simp
    have hp4 : (p ++ [48, 48, 48, 48]).length = p.length + 4 := by simp
    have hA3 : (w ++ (p ++ [48, 48, 48, 48]).take 3).length = w.length + 3 := by rw [List.length_append, hp3]
    have hAd : (w ++ (p ++ [48, 48, 48, 48]).take 3).all isDig = true := by
      rw [List.all_append, hw, Bool.true_and, List.all_eq_true]
      intro c hc
      rcases List.mem_append.mp (List.mem_of_mem_take hc) with h | h
      · exact List.all_eq_true.mp hp c h
      · simp at h; subst h; decide
    have hW : numW w p = min (numL (w ++ (p ++ [48, 48, 48, 48]).take 3)) 1099511627776 + (if 3 < p.length ∧ 53 ≤ (p.getD 3 0).toNat then 1 else 0) := by
      unfold numW; rw [pad4]
    conv => whnf
    repeat' (first
      | (refine And.intro W1 ?_; conv => whnf)
      | (refine brD (fun _ => ?_) (fun _ => ?_) <;> first | (exfalso; omega) | (conv => whnf))
      | (refine brB (fun _ => ?_) (fun _ => ?_) <;> conv => whnf))
    have e3 : (p ++ [48, 48, 48, 48]).take (Int.toNat 3) = (p ++ [48, 48, 48, 48]).take 3 := rfl
    generalize hA : w ++ (p ++ [48, 48, 48, 48]).take 3 = A at *
    refine LoopG.s (fun x : Nat => x ≤ A.length ∧ numL (A.take x) ≤ 1099511627776) 117 (fun x => [(4, .bool mi), (6, .str A), (7, .str p), (9, .int .i64 (numL (A.take x) : Nat)), (10, .int .i64 x)]) (fun _ => frm l) (fun x => A.length - x) 0 ⟨by omega, by simp [numL]⟩ rfl ⟨rfl, ?_, rfl, rfl, rfl⟩ rfl ?_
    · show some (AV.str (w ++ (p ++ [48, 48, 48, 48]).take 3)) = some (AV.str A)
      rw [hA]
    rintro x ⟨h1, h2⟩
    by_cases hx : x < A.length
    · have hg := getD_at A x hx
      obtain ⟨e1, e2⟩ := sub48 A[x] (List.all_eq_true.mp hAd _ (List.getElem_mem hx))
      have e3 : numL (A.take (x + 1)) = numL (A.take x) * 10 + (A[x].toNat - 48) := by rw [List.take_succ_eq_append_getElem hx, numL_snoc]
      have e4 : numL (A.take (x + 1)) ≤ numL A := by
        have := numL_mono (A.take (x + 1)) (A.drop (x + 1))
        rwa [List.take_append_drop] at this
      generalize A[x] = c at *
      conv => whnf
      repeat' (first
        | (rw [hg]; conv => whnf)
        | (rw [e1]; conv => whnf)
        | (refine And.intro W1 ?_; conv => whnf)
        | (refine brD (fun _ => ?_) (fun _ => ?_) <;> first | (exfalso; omega) | (conv => whnf))
        | (refine brB (fun _ => ?_) (fun _ => ?_) <;> conv => whnf))
      · refine RetG.q ⟨rfl, ?_, rfl⟩
        rw [hsp, hW, told_big _ mi (by omega)]; rfl
      · refine ⟨x + 1, ⟨⟨by omega, by omega⟩, by omega⟩, Wk.slots rfl ⟨rfl, rfl, rfl, ?_, rfl⟩⟩
        rw [e3]
        refine congrArg (fun z => some (AV.int .i64 z)) ?_
        omega
    · have : x = A.length := by omega
      subst this
      rw [List.take_length] at h2 ⊢
      have hm : min (numL A) 1099511627776 = numL A := by omega
      rw [hm] at hW
      rw [hsp, hW]
      have g3 : p.getD (Int.toNat 3) 0 = p.getD 3 0 := rfl
      by_cases hr : 3 < p.length ∧ 53 ≤ (p.getD 3 0).toNat
      · rw [if_pos hr]
        cases mi
        all_goals
          conv => whnf
          repeat' (first
            | (rw [g3]; conv => whnf)
            | (refine And.intro W1 ?_; conv => whnf)
            | (refine brD (fun _ => ?_) (fun _ => ?_) <;> first | (exfalso; omega) | (conv => whnf))
            | (refine brB (fun _ => ?_) (fun _ => ?_) <;> conv => whnf)
            | ((first | refine CallG.e (rtold hE _) ?_ | refine CallD.e (rtold hE _) ?_ | refine CallQ.e (rtold hE _) ?_); conv => whnf))
          exact RetG.q ⟨rfl, rfl, rfl⟩
      · rw [if_neg hr]
        cases mi
        all_goals
          conv => whnf
          repeat' (first
            | (rw [g3]; conv => whnf)
            | (refine And.intro W1 ?_; conv => whnf)
            | (refine brD (fun _ => ?_) (fun _ => ?_) <;> first | (exfalso; omega) | (conv => whnf))
            | (refine brB (fun _ => ?_) (fun _ => ?_) <;> conv => whnf)
            | ((first | refine CallG.e (rtold hE _) ?_ | refine CallD.e (rtold hE _) ?_ | refine CallQ.e (rtold hE _) ?_); conv => whnf))
          all_goals exact RetG.q ⟨rfl, rfl, rfl⟩
end Ink.D

namespace Ink.D
open Go Go.Proofs
set_option maxRecDepth 100000
variable {E : Env} (hE : E.P = Tryz.prog)

theorem numStart_iff (c : UInt8) : c ∈ numStart ↔ ((c.toNat : Int) = 43 ∨ (c.toNat : Int) = 45 ∨ (c.toNat : Int) = 46 ∨ (48 ≤ (c.toNat : Int) ∧ (c.toNat : Int) ≤ 57)) := by
  have key : ∀ c : UInt8, (decide (c ∈ numStart)) = (decide ((c.toNat : Int) = 43 ∨ (c.toNat : Int) = 45 ∨ (c.toNat : Int) = 46 ∨ (48 ≤ (c.toNat : Int) ∧ (c.toNat : Int) ≤ 57))) := by
    intro c
    revert c
    refine u8all ?_
    decide +kernel
  have := key c
  constructor
  · intro h; rw [decide_eq_true h] at this; exact of_decide_eq_true this.symm
  · intro h; rw [decide_eq_true h] at this; exact of_decide_eq_true this

def wordZ (r : List UInt8) (k : Nat) : Tok × Int := if (wordL r k).2 = 0 then wordL r k else (.zero, (wordL r k).2)

include hE
set_option maxHeartbeats 1000000 in
theorem rword (s : List UInt8) (k : Nat) (hs : s.length < 1000000) (hk : k < s.length) (hc : isReg s[k] = true) : PCalls E 145 [.str s, .int .i64 k] (· = tokAV (wordZ (s.drop k) k)) := by
  refine p145 hE fun l => ?_
  have hd := List.drop_eq_getElem_cons hk
  have hw := run_ hE s k (by unfold big; omega) (by omega)
  have hwl : whileL isReg s k = k + ((s.drop k).takeWhile isReg).length := rfl
  have hwle := whileL_le isReg s k (by omega)
  have hw0 : (s.drop k).takeWhile isReg = s[k] :: (s.drop (k + 1)).takeWhile isReg := by
    rw [hd, List.takeWhile_cons_of_pos hc]
  have hsw : ((s.drop (k : Int).toNat).take (((whileL isReg s k : Nat) : Int).toNat - (k : Int).toNat)) = (s.drop k).takeWhile isReg := by
    rw [Int.toNat_natCast, Int.toNat_natCast, take_whileL]
  have hg := getD_at s k hk
  have hspec : wordZ (s.drop k) k = if s[k] ∈ numStart then (if (parseL ((s.drop k).takeWhile isReg)).2 = 0 then (⟨1, (parseL ((s.drop k).takeWhile isReg)).1, [], !decide (46 ∈ (s.drop k).takeWhile isReg), k, k + ((s.drop k).takeWhile isReg).length⟩, (parseL ((s.drop k).takeWhile isReg)).2) else (.zero, (parseL ((s.drop k).takeWhile isReg)).2))
      else (⟨8, 0, (s.drop k).takeWhile isReg, false, k, k + ((s.drop k).takeWhile isReg).length⟩, 0) := by
    have hget : ((s.drop k).takeWhile isReg).getD 0 0 = s[k] := by rw [hw0]; rfl
    have hW : wordL (s.drop k) k = if s[k] ∈ numStart then (⟨1, (parseL ((s.drop k).takeWhile isReg)).1, [], !decide (46 ∈ (s.drop k).takeWhile isReg), k, k + ((s.drop k).takeWhile isReg).length⟩, (parseL ((s.drop k).takeWhile isReg)).2)
        else (⟨8, 0, (s.drop k).takeWhile isReg, false, k, k + ((s.drop k).takeWhile isReg).length⟩, 0) := by
      unfold wordL
      simp only [hget]
    unfold wordZ
    rw [hW]
    by_cases hm : s[k] ∈ numStart
    · rw [if_pos hm, if_pos hm]
    · rw [if_neg hm, if_neg hm, if_pos rfl]
  have hni := numStart_iff s[k]
  rw [hspec]
  have hwpos : 0 < ((s.drop k).takeWhile isReg).length := by rw [hw0]; simp
  have hwlen : ((s.drop k).takeWhile isReg).length ≤ s.length := by have := tw_le isReg (s.drop k); simp at this; omega
  generalize (s.drop k).takeWhile isReg = w at *
  generalize whileL isReg s k = to at *
  generalize s[k] = c at *
  refine wpc_join 5 77 (fun _ : Unit => c ∈ numStart) (fun _ => [(4, .ptr 1 0 0), (6, .ptr 2 0 0)]) (fun _ => [⟨0, true, .frame l⟩, ⟨0, true, .cells 143 (tkC 0 0 [] false 0 0)⟩, ⟨0, true, .cells 143 (tkC 8 0 w false k to)⟩]) ?_ ?_
  · by_cases hm : c ∈ numStart
    · have hn := hni.mp hm
      conv => whnf
      repeat' (first
        | (rw [hsw]; conv => whnf)
        | (rw [hg]; conv => whnf)
        | (refine And.intro W1 ?_; conv => whnf)
        | (refine brD (fun _ => ?_) (fun _ => ?_) <;> first | (exfalso; omega) | (conv => whnf))
        | (refine brB (fun _ => ?_) (fun _ => ?_) <;> conv => whnf)
        | ((first | refine CallG.e hw ?_ | refine CallD.e hw ?_ | refine CallQ.e hw ?_); conv => whnf))
      all_goals exact ⟨(), hm, rfl, rfl⟩
    · have hn : ¬ ((c.toNat : Int) = 43 ∨ (c.toNat : Int) = 45 ∨ (c.toNat : Int) = 46 ∨ (48 ≤ (c.toNat : Int) ∧ (c.toNat : Int) ≤ 57)) := fun h => hm (hni.mpr h)
      rw [if_neg hm]
      conv => whnf
      repeat' (first
        | (rw [hsw]; conv => whnf)
        | (rw [hg]; conv => whnf)
        | (refine And.intro W1 ?_; conv => whnf)
        | (refine brD (fun _ => ?_) (fun _ => ?_) <;> first | (exfalso; omega) | (conv => whnf))
        | (refine brB (fun _ => ?_) (fun _ => ?_) <;> conv => whnf)
        | ((first | refine CallG.e hw ?_ | refine CallD.e hw ?_ | refine CallQ.e hw ?_); conv => whnf))
      all_goals
        refine RetG.drop rfl rfl rfl ⟨rfl, ?_, rfl⟩
        subst hwl; rfl
  · intro _ junk hm
    rw [if_pos hm]
    have hP := rparse hE w (by unfold big; omega)
    conv => whnf
    repeat' (first
      | (refine And.intro W1 ?_; conv => whnf)
      | (refine brD (fun _ => ?_) (fun _ => ?_) <;> first | (exfalso; omega) | (conv => whnf))
      | (refine brB (fun _ => ?_) (fun _ => ?_) <;> conv => whnf))
    refine LoopG.s (fun x : Nat => x ≤ w.length) 77 (fun x => [(4, .ptr 1 0 0), (6, .ptr 2 0 0), (8, .int .i64 x)]) (fun x => [⟨0, true, .frame l⟩, ⟨0, true, .cells 143 (tkC 0 0 [] false 0 0)⟩, ⟨0, true, .cells 143 (tkC 1 0 w (!decide (46 ∈ w.take x)) k to)⟩]) (fun x => w.length - x) 0 (by omega) rfl ⟨rfl, rfl, rfl⟩ rfl ?_
    intro x h1
    by_cases hx : x < w.length
    · have hgx := getD_at w x hx
      have hmem : (46 ∈ w.take (x + 1)) ↔ (46 ∈ w.take x ∨ w[x] = 46) := by
        rw [List.take_succ_eq_append_getElem hx, List.mem_append, List.mem_singleton]; exact or_congr Iff.rfl eq_comm
      by_cases hp : 46 ∈ w.take x
      · have hd1 : (!decide (46 ∈ w.take x)) = false := by simp [hp]
        have hd2 : (!decide (46 ∈ w.take (x + 1))) = false := by simp [hmem, hp]
        conv => whnf
        repeat' (first
          | (rw [hd1]; conv => whnf)
          | (refine And.intro W1 ?_; conv => whnf)
          | (refine brD (fun _ => ?_) (fun _ => ?_) <;> first | (exfalso; omega) | (conv => whnf))
          | (refine brB (fun _ => ?_) (fun _ => ?_) <;> conv => whnf))
        refine ⟨x + 1, ⟨by omega, by omega⟩, ?_⟩
        rw [hd2]
        exact Wk.slots rfl ⟨rfl, rfl, rfl⟩
      · have hd1 : (!decide (46 ∈ w.take x)) = true := by simp [hp]
        by_cases hq : w[x] = 46
        · have hd2 : (!decide (46 ∈ w.take (x + 1))) = false := by simp [hmem, hq]
          rw [hq] at hgx
          conv => whnf
          repeat' (first
            | (rw [hd1]; conv => whnf)
            | (rw [hgx]; conv => whnf)
            | (refine And.intro W1 ?_; conv => whnf)
            | (refine brD (fun _ => ?_) (fun _ => ?_) <;> first | (exfalso; omega) | (conv => whnf))
            | (refine brB (fun _ => ?_) (fun _ => ?_) <;> conv => whnf))
          refine ⟨x + 1, ⟨by omega, by omega⟩, ?_⟩
          rw [hd2]
          exact Wk.slots rfl ⟨rfl, rfl, rfl⟩
        · have hd2 : (!decide (46 ∈ w.take (x + 1))) = true := by simp [hmem, hp, hq]
          have nq := ne_num _ 46 (by decide) hq
          generalize w[x] = cx at *
          conv => whnf
          repeat' (first
            | (rw [hd1]; conv => whnf)
            | (rw [hgx]; conv => whnf)
            | (refine And.intro W1 ?_; conv => whnf)
            | (refine brD (fun _ => ?_) (fun _ => ?_) <;> first | (exfalso; omega) | (conv => whnf))
            | (refine brB (fun _ => ?_) (fun _ => ?_) <;> conv => whnf))
          have hd3 : decide ((cx.toNat : Int) ≠ 46) = true := decide_eq_true nq
          refine ⟨x + 1, ⟨by omega, by omega⟩, ?_⟩
          rw [hd2]
          first
            | exact Wk.slots rfl ⟨rfl, rfl, rfl⟩
            | (rw [hd3]; exact Wk.slots rfl ⟨rfl, rfl, rfl⟩)
    · have : x = w.length := by omega
      subst this
      rw [List.take_length]
      generalize parseL w = P at *
      obtain ⟨v, e⟩ := P
      dsimp only
      by_cases he : e = 0
      · subst he
        conv => whnf
        repeat' (first
          | (refine And.intro W1 ?_; conv => whnf)
          | (refine brD (fun _ => ?_) (fun _ => ?_) <;> first | (exfalso; omega) | (conv => whnf))
          | (refine brB (fun _ => ?_) (fun _ => ?_) <;> conv => whnf)
          | ((first | refine CallG.e hP ?_ | refine CallD.e hP ?_ | refine CallQ.e hP ?_); conv => whnf))
        refine RetG.drop rfl rfl rfl ⟨rfl, ?_, rfl⟩
        subst hwl
        rfl
      · rw [if_neg he]
        conv => whnf
        repeat' (first
          | (refine And.intro W1 ?_; conv => whnf)
          | (refine brD (fun _ => ?_) (fun _ => ?_) <;> first | (exfalso; omega) | (conv => whnf))
          | (refine brB (fun _ => ?_) (fun _ => ?_) <;> conv => whnf)
          | ((first | refine CallG.e hP ?_ | refine CallD.e hP ?_ | refine CallQ.e hP ?_); conv => whnf))
        all_goals refine RetG.drop rfl rfl rfl ⟨rfl, ?_, rfl⟩
        all_goals rfl
end Ink.D

namespace Ink.D
open Go Go.Proofs
set_option maxRecDepth 100000
variable {E : Env} (hE : E.P = Tryz.prog)

def pairB (s : List UInt8) (k : Nat) : Bool := match s.drop k with
  | a :: b :: _ => a == b
  | _ => false

include hE
theorem rpair (s : List UInt8) (k : Nat) (hs : s.length < 1000000) (hk : k < s.length) : PCalls E 140 [.str s, .int .i64 k] (· = .bool (pairB s k)) := by
  have hd := List.drop_eq_getElem_cons hk
  have hg := getD_at s k hk
  refine p140 hE fun l => ?_
  by_cases h1 : k + 1 < s.length
  · have hd1 := List.drop_eq_getElem_cons h1
    have hg1 := getD_at s (k + 1) h1
    have g1 : s.getD ((k : Int) + 1).toNat 0 = s[k + 1] := hg1
    have hb : pairB s k = (s[k] == s[k + 1]) := by unfold pairB; rw [hd, hd1]
    rw [hb]
    generalize s[k] = a at *
    generalize s[k + 1] = b at *
    conv => whnf
    repeat' (first
      | (rw [hg]; conv => whnf)
      | (rw [g1]; conv => whnf)
      | (refine And.intro W1 ?_; conv => whnf)
      | (refine brD (fun _ => ?_) (fun _ => ?_) <;> first | (exfalso; omega) | (conv => whnf))
      | (refine brB (fun _ => ?_) (fun _ => ?_) <;> conv => whnf))
    refine RetG.q ⟨rfl, ?_, rfl⟩
    refine congrArg AV.bool ?_
    rw [Bool.eq_iff_iff, decide_eq_true_iff, u8eqI]
    simp
  · have hb : pairB s k = false := by
      unfold pairB; rw [hd, List.drop_eq_nil_of_le (by omega)]
    rw [hb]
    conv => whnf
    repeat' (first
      | (refine And.intro W1 ?_; conv => whnf)
      | (refine brD (fun _ => ?_) (fun _ => ?_) <;> first | (exfalso; omega) | (conv => whnf))
      | (refine brB (fun _ => ?_) (fun _ => ?_) <;> conv => whnf))
    exact RetG.q ⟨rfl, rfl, rfl⟩

omit hE in
def tokZ (r : List UInt8) (k : Nat) : Tok × Int := if (tokL r k).2 = 0 then tokL r k else (.zero, (tokL r k).2)

omit hE in
def tokZR (c : UInt8) (t : List UInt8) (k : Nat) : Tok × Int :=
    if c = 91 then (⟨4, 0, [], false, k, k + 1⟩, 0) else if c = 93 then (⟨5, 0, [], false, k, k + 1⟩, 0)
    else if (c = 60 ∨ c = 62) ∧ t.head? = some c then (⟨if c = 62 then 7 else 6, 0, [], false, k, k + 2⟩, 0)
    else if c = 47 then match namedL (t.takeWhile isReg) with
      | some n => (⟨2, 0, n, false, k, k + 1 + (t.takeWhile isReg).length⟩, 0)
      | none => (.zero, 3)
    else if c = 40 then match textL t 0 with
      | some x => (⟨3, 0, x.1, false, k, k + 1 + x.2⟩, 0)
      | none => (.zero, 4)
    else if c = 60 then match digsL t with
      | .ok x => (⟨3, 0, pairL x.1, false, k, k + 1 + x.2⟩, 0)
      | .error e => (.zero, e)
    else if isDelim c then (.zero, 3)
    else wordZ (c :: t) k

omit hE in
theorem tokZ_cons (c : UInt8) (t : List UInt8) (k : Nat) : tokZ (c :: t) k = tokZR c t k := by
  have one : ∀ a : UInt8, List.isPrefixOf [a] (c :: t) = decide (c = a) := fun a => by
    by_cases hc : c = a
    · subst hc; simp [List.isPrefixOf]
    · have hc' : (a == c) = false := by simpa using Ne.symm hc
      simp [List.isPrefixOf, hc, hc']
  have two : ∀ a : UInt8, List.isPrefixOf [a, a] (c :: t) = decide (c = a ∧ t.head? = some c) := fun a => by
    by_cases hc : c = a
    · subst hc
      match t with
      | [] => simp [List.isPrefixOf]
      | d :: u =>
        by_cases hd : d = c
        · subst hd; simp [List.isPrefixOf]
        · have hd' : (c == d) = false := by simpa using Ne.symm hd
          simp [List.isPrefixOf, hd, hd']
    · have hc' : (a == c) = false := by simpa using Ne.symm hc
      simp [List.isPrefixOf, hc, hc']
  unfold tokZR
  by_cases h91 : c = 91
  · have : tokL (c :: t) k = (⟨4, 0, [], false, k, k + 1⟩, 0) := by unfold tokL; rw [one, if_pos (by simp [h91])]
    unfold tokZ; rw [this, if_pos h91]; rfl
  rw [if_neg h91]
  by_cases h93 : c = 93
  · have : tokL (c :: t) k = (⟨5, 0, [], false, k, k + 1⟩, 0) := by unfold tokL; rw [one, one, if_neg (by simp [h91]), if_pos (by simp [h93])]
    unfold tokZ; rw [this, if_pos h93]; rfl
  rw [if_neg h93]
  by_cases h66 : c = 60 ∧ t.head? = some c
  · have : tokL (c :: t) k = (⟨6, 0, [], false, k, k + 2⟩, 0) := by unfold tokL; rw [one, one, two, if_neg (by simp [h91]), if_neg (by simp [h93]), if_pos (by simpa using h66)]
    unfold tokZ; rw [this, if_pos rfl, if_pos ⟨.inl h66.1, h66.2⟩, if_neg (by rw [h66.1]; decide)]
  by_cases h77 : c = 62 ∧ t.head? = some c
  · have : tokL (c :: t) k = (⟨7, 0, [], false, k, k + 2⟩, 0) := by unfold tokL; rw [one, one, two, two, if_neg (by simp [h91]), if_neg (by simp [h93]), if_neg (by simpa using h66), if_pos (by simpa using h77)]
    unfold tokZ; rw [this, if_pos rfl, if_pos ⟨.inr h77.1, h77.2⟩, if_pos h77.1]
  rw [if_neg (by rintro ⟨h | h, h'⟩; exact h66 ⟨h, h'⟩; exact h77 ⟨h, h'⟩)]
  have ht : tokL (c :: t) k = tokR c t k := tokL_cons c t k (by rw [one]; simp [h91]) (by rw [one]; simp [h93]) (by rw [two]; simpa using h66) (by rw [two]; simpa using h77)
  unfold tokZ
  rw [ht]
  unfold tokR
  by_cases h47 : c = 47
  · simp only [h47, if_true]
    cases namedL (t.takeWhile isReg) <;> simp
  · simp only [h47, if_false]
    by_cases h40 : c = 40
    · simp only [h40, if_true]
      cases textL t 0 <;> simp
    · simp only [h40, if_false]
      by_cases h60 : c = 60
      · simp only [h60, if_true]
        cases hd : digsL t with
        | error e =>
          have := digsL_err _ _ hd
          have : e ≠ 0 := by omega
          simp [this]
        | ok x => simp
      · simp only [h60, if_false]
        by_cases hdl : isDelim c = true
        · simp [hdl]
        · simp only [hdl, if_false]
          rfl

omit hE in
theorem nextL_Z (s : List UInt8) (at_ : Int) (h : ¬ (at_ < 0 ∨ (s.length : Int) < at_)) : nextL s at_ = if spaceL s at_.toNat = s.length then (⟨0, 0, [], false, spaceL s at_.toNat, spaceL s at_.toNat⟩, 0) else tokZ (s.drop (spaceL s at_.toNat)) (spaceL s at_.toNat) := by
  unfold nextL tokZ
  rw [if_neg h]

set_option maxHeartbeats 2000000 in
theorem rnext (s : List UInt8) (at_ : Int) (hs : s.length < 1000000) : PCalls E 88 [.str s, .int .i64 at_] (· = tokAV (nextL s at_)) := by
  refine p88 hE fun l => ?_
  have hS := rspace hE s at_ (by unfold big; omega)
  by_cases hr : at_ < 0 ∨ (s.length : Int) < at_
  · have hn : nextL s at_ = (.zero, 1) := by unfold nextL; rw [if_pos hr]
    rw [hn]
    conv => whnf
    repeat' (first
      | (refine And.intro W1 ?_; conv => whnf)
      | (refine brD (fun _ => ?_) (fun _ => ?_) <;> first | (exfalso; omega) | (conv => whnf))
      | (refine brB (fun _ => ?_) (fun _ => ?_) <;> conv => whnf)
      | ((first | refine CallG.e hS ?_ | refine CallD.e hS ?_ | refine CallQ.e hS ?_); conv => whnf))
    all_goals exact RetG.drop rfl rfl rfl ⟨rfl, rfl, rfl⟩
  · have hcl : clampL s at_ = at_.toNat := by unfold clampL; omega
    have hle := spaceL_le s at_.toNat (by omega)
    rw [nextL_Z s at_ hr]
    rw [hcl] at hS
    have hat := spaceL_at s at_.toNat
    generalize spaceL s at_.toNat = k at *
    by_cases hk : k = s.length
    · rw [if_pos hk]
      conv => whnf
      repeat' (first
        | (refine And.intro W1 ?_; conv => whnf)
        | (refine brD (fun _ => ?_) (fun _ => ?_) <;> first | (exfalso; omega) | (conv => whnf))
        | (refine brB (fun _ => ?_) (fun _ => ?_) <;> conv => whnf)
        | ((first | refine CallG.e hS ?_ | refine CallD.e hS ?_ | refine CallQ.e hS ?_); conv => whnf))
      all_goals exact RetG.drop rfl rfl rfl ⟨rfl, rfl, rfl⟩
    · rw [if_neg hk]
      have hlt : k < s.length := by omega
      obtain ⟨hw, h37⟩ := hat hlt
      have hd := List.drop_eq_getElem_cons hlt
      have hg := getD_at s k hlt
      have hP := rpair hE s k hs hlt
      have hpb : pairB s k = true ↔ (s.drop (k + 1)).head? = some s[k] := by
        unfold pairB
        rw [hd]
        cases s.drop (k + 1) with
        | nil => simp
        | cons b r =>
          simp only [beq_iff_eq, List.head?_cons, Option.some.injEq]
          exact eq_comm
      have hN := rname hE s (k + 1) hs hlt
      have hT := rtext hE s (k + 1) hs hlt
      have hD := rdigits hE s (k + 1) hs hlt
      have hDl := rdelim hE s[k]
      have hreg : isReg s[k] = !isDelim s[k] := by simp [isReg, hw]
      have hWd : isDelim s[k] = false → PCalls E 145 [.str s, .int .i64 k] (· = tokAV (wordZ (s.drop k) k)) := fun h => rword hE s k hs hlt (by rw [hreg, h]; rfl)
      rw [hd, tokZ_cons]
      rw [hd] at hWd
      have e1 : k + 1 ≤ s.length := hlt
      generalize s.drop (k + 1) = t at *
      generalize s[k] = c at *
      unfold tokZR
      by_cases h91 : c = 91
      · subst h91
        rw [if_pos rfl]
        conv => whnf
        repeat' (first
          | (rw [hg]; conv => whnf)
          | (refine And.intro W1 ?_; conv => whnf)
          | (refine brD (fun _ => ?_) (fun _ => ?_) <;> first | (exfalso; omega) | (conv => whnf))
          | (refine brB (fun _ => ?_) (fun _ => ?_) <;> conv => whnf)
          | ((first | refine CallG.e hS ?_ | refine CallD.e hS ?_ | refine CallQ.e hS ?_); conv => whnf))
        all_goals exact RetG.drop rfl rfl rfl ⟨rfl, rfl, rfl⟩
      have n91 := ne_num c 91 (by decide) h91
      rw [if_neg h91]
      by_cases h93 : c = 93
      · subst h93
        rw [if_pos rfl]
        conv => whnf
        repeat' (first
          | (rw [hg]; conv => whnf)
          | (refine And.intro W1 ?_; conv => whnf)
          | (refine brD (fun _ => ?_) (fun _ => ?_) <;> first | (exfalso; omega) | (conv => whnf))
          | (refine brB (fun _ => ?_) (fun _ => ?_) <;> conv => whnf)
          | ((first | refine CallG.e hS ?_ | refine CallD.e hS ?_ | refine CallQ.e hS ?_); conv => whnf))
        all_goals exact RetG.drop rfl rfl rfl ⟨rfl, rfl, rfl⟩
      have n93 := ne_num c 93 (by decide) h93
      rw [if_neg h93]
      by_cases h60 : c = 60
      · subst h60
        cases hpc : pairB s k with
        | true =>
          rw [hpc] at hP
          rw [if_pos ⟨.inl rfl, hpb.mp hpc⟩, if_neg (by decide)]
          conv => whnf
          repeat' (first
            | (rw [hg]; conv => whnf)
            | (refine And.intro W1 ?_; conv => whnf)
            | (refine brD (fun _ => ?_) (fun _ => ?_) <;> first | (exfalso; omega) | (conv => whnf))
            | (refine brB (fun _ => ?_) (fun _ => ?_) <;> conv => whnf)
            | ((first | refine CallG.e hS ?_ | refine CallD.e hS ?_ | refine CallQ.e hS ?_); conv => whnf)
            | ((first | refine CallG.e hP ?_ | refine CallD.e hP ?_ | refine CallQ.e hP ?_); conv => whnf))
          all_goals exact RetG.drop rfl rfl rfl ⟨rfl, rfl, rfl⟩
        | false =>
          rw [hpc] at hP
          have hh : ¬ t.head? = some 60 := fun h => by have := hpb.mpr h; rw [hpc] at this; cases this
          rw [if_neg (fun h => hh h.2), if_neg (by decide), if_neg (by decide), if_pos rfl]
          cases hx : digsL t with
          | error e =>
            rw [hx] at hD
            have he := digsL_err _ _ hx
            conv => whnf
            repeat' (first
              | (rw [hg]; conv => whnf)
              | (refine And.intro W1 ?_; conv => whnf)
              | (refine brD (fun _ => ?_) (fun _ => ?_) <;> first | (exfalso; omega) | (conv => whnf))
              | (refine brB (fun _ => ?_) (fun _ => ?_) <;> conv => whnf)
              | ((first | refine CallG.e hS ?_ | refine CallD.e hS ?_ | refine CallQ.e hS ?_); conv => whnf)
              | ((first | refine CallG.e hP ?_ | refine CallD.e hP ?_ | refine CallQ.e hP ?_); conv => whnf)
              | ((first | refine CallG.e hD ?_ | refine CallD.e hD ?_ | refine CallQ.e hD ?_); conv => whnf))
            all_goals exact RetG.drop rfl rfl rfl ⟨rfl, rfl, rfl⟩
          | ok x =>
            rw [hx] at hD
            conv => whnf
            repeat' (first
              | (rw [hg]; conv => whnf)
              | (refine And.intro W1 ?_; conv => whnf)
              | (refine brD (fun _ => ?_) (fun _ => ?_) <;> first | (exfalso; omega) | (conv => whnf))
              | (refine brB (fun _ => ?_) (fun _ => ?_) <;> conv => whnf)
              | ((first | refine CallG.e hS ?_ | refine CallD.e hS ?_ | refine CallQ.e hS ?_); conv => whnf)
              | ((first | refine CallG.e hP ?_ | refine CallD.e hP ?_ | refine CallQ.e hP ?_); conv => whnf)
              | ((first | refine CallG.e hD ?_ | refine CallD.e hD ?_ | refine CallQ.e hD ?_); conv => whnf))
            all_goals exact RetG.drop rfl rfl rfl ⟨rfl, rfl, rfl⟩
      have n60 := ne_num c 60 (by decide) h60
      by_cases h62 : c = 62
      · subst h62
        cases hpc : pairB s k with
        | true =>
          rw [hpc] at hP
          rw [if_pos ⟨.inr rfl, hpb.mp hpc⟩, if_pos rfl]
          conv => whnf
          repeat' (first
            | (rw [hg]; conv => whnf)
            | (refine And.intro W1 ?_; conv => whnf)
            | (refine brD (fun _ => ?_) (fun _ => ?_) <;> first | (exfalso; omega) | (conv => whnf))
            | (refine brB (fun _ => ?_) (fun _ => ?_) <;> conv => whnf)
            | ((first | refine CallG.e hS ?_ | refine CallD.e hS ?_ | refine CallQ.e hS ?_); conv => whnf)
            | ((first | refine CallG.e hP ?_ | refine CallD.e hP ?_ | refine CallQ.e hP ?_); conv => whnf))
          all_goals exact RetG.drop rfl rfl rfl ⟨rfl, rfl, rfl⟩
        | false =>
          rw [hpc] at hP
          have hh : ¬ t.head? = some 62 := fun h => by have := hpb.mpr h; rw [hpc] at this; cases this
          have hdl : isDelim 62 = true := by decide
          rw [hdl] at hDl
          rw [if_neg (fun h => hh h.2), if_neg (by decide), if_neg (by decide), if_neg (by decide), if_pos hdl]
          conv => whnf
          repeat' (first
            | (rw [hg]; conv => whnf)
            | (refine And.intro W1 ?_; conv => whnf)
            | (refine brD (fun _ => ?_) (fun _ => ?_) <;> first | (exfalso; omega) | (conv => whnf))
            | (refine brB (fun _ => ?_) (fun _ => ?_) <;> conv => whnf)
            | ((first | refine CallG.e hS ?_ | refine CallD.e hS ?_ | refine CallQ.e hS ?_); conv => whnf)
            | ((first | refine CallG.e hP ?_ | refine CallD.e hP ?_ | refine CallQ.e hP ?_); conv => whnf)
            | ((first | refine CallG.e hDl ?_ | refine CallD.e hDl ?_ | refine CallQ.e hDl ?_); conv => whnf))
          all_goals exact RetG.drop rfl rfl rfl ⟨rfl, rfl, rfl⟩
      have n62 := ne_num c 62 (by decide) h62
      rw [if_neg (by rintro ⟨h | h, _⟩; exact h60 h; exact h62 h)]
      by_cases h47 : c = 47
      · subst h47
        rw [if_pos rfl]
        cases hx : namedL (t.takeWhile isReg) with
        | none =>
          rw [hx] at hN
          conv => whnf
          repeat' (first
            | (rw [hg]; conv => whnf)
            | (refine And.intro W1 ?_; conv => whnf)
            | (refine brD (fun _ => ?_) (fun _ => ?_) <;> first | (exfalso; omega) | (conv => whnf))
            | (refine brB (fun _ => ?_) (fun _ => ?_) <;> conv => whnf)
            | ((first | refine CallG.e hS ?_ | refine CallD.e hS ?_ | refine CallQ.e hS ?_); conv => whnf)
            | ((first | refine CallG.e hN ?_ | refine CallD.e hN ?_ | refine CallQ.e hN ?_); conv => whnf))
          all_goals exact RetG.drop rfl rfl rfl ⟨rfl, rfl, rfl⟩
        | some n =>
          rw [hx] at hN
          conv => whnf
          repeat' (first
            | (rw [hg]; conv => whnf)
            | (refine And.intro W1 ?_; conv => whnf)
            | (refine brD (fun _ => ?_) (fun _ => ?_) <;> first | (exfalso; omega) | (conv => whnf))
            | (refine brB (fun _ => ?_) (fun _ => ?_) <;> conv => whnf)
            | ((first | refine CallG.e hS ?_ | refine CallD.e hS ?_ | refine CallQ.e hS ?_); conv => whnf)
            | ((first | refine CallG.e hN ?_ | refine CallD.e hN ?_ | refine CallQ.e hN ?_); conv => whnf))
          all_goals exact RetG.drop rfl rfl rfl ⟨rfl, rfl, rfl⟩
      have n47 := ne_num c 47 (by decide) h47
      rw [if_neg h47]
      by_cases h40 : c = 40
      · subst h40
        rw [if_pos rfl]
        cases hx : textL t 0 with
        | none =>
          rw [hx] at hT
          conv => whnf
          repeat' (first
            | (rw [hg]; conv => whnf)
            | (refine And.intro W1 ?_; conv => whnf)
            | (refine brD (fun _ => ?_) (fun _ => ?_) <;> first | (exfalso; omega) | (conv => whnf))
            | (refine brB (fun _ => ?_) (fun _ => ?_) <;> conv => whnf)
            | ((first | refine CallG.e hS ?_ | refine CallD.e hS ?_ | refine CallQ.e hS ?_); conv => whnf)
            | ((first | refine CallG.e hT ?_ | refine CallD.e hT ?_ | refine CallQ.e hT ?_); conv => whnf))
          all_goals exact RetG.drop rfl rfl rfl ⟨rfl, rfl, rfl⟩
        | some x =>
          rw [hx] at hT
          conv => whnf
          repeat' (first
            | (rw [hg]; conv => whnf)
            | (refine And.intro W1 ?_; conv => whnf)
            | (refine brD (fun _ => ?_) (fun _ => ?_) <;> first | (exfalso; omega) | (conv => whnf))
            | (refine brB (fun _ => ?_) (fun _ => ?_) <;> conv => whnf)
            | ((first | refine CallG.e hS ?_ | refine CallD.e hS ?_ | refine CallQ.e hS ?_); conv => whnf)
            | ((first | refine CallG.e hT ?_ | refine CallD.e hT ?_ | refine CallQ.e hT ?_); conv => whnf))
          all_goals exact RetG.drop rfl rfl rfl ⟨rfl, rfl, rfl⟩
      have n40 := ne_num c 40 (by decide) h40
      rw [if_neg h40, if_neg h60]
      cases hdl : isDelim c with
      | true =>
        rw [hdl] at hDl
        rw [if_pos rfl]
        conv => whnf
        repeat' (first
          | (rw [hg]; conv => whnf)
          | (refine And.intro W1 ?_; conv => whnf)
          | (refine brD (fun _ => ?_) (fun _ => ?_) <;> first | (exfalso; omega) | (conv => whnf))
          | (refine brB (fun _ => ?_) (fun _ => ?_) <;> conv => whnf)
          | ((first | refine CallG.e hS ?_ | refine CallD.e hS ?_ | refine CallQ.e hS ?_); conv => whnf)
          | ((first | refine CallG.e hDl ?_ | refine CallD.e hDl ?_ | refine CallQ.e hDl ?_); conv => whnf))
        all_goals exact RetG.drop rfl rfl rfl ⟨rfl, rfl, rfl⟩
      | false =>
        rw [hdl] at hDl
        have hW := hWd hdl
        rw [if_neg (by decide)]
        generalize wordZ (c :: t) k = X at *
        conv => whnf
        repeat' (first
          | (rw [hg]; conv => whnf)
          | (refine And.intro W1 ?_; conv => whnf)
          | (refine brD (fun _ => ?_) (fun _ => ?_) <;> first | (exfalso; omega) | (conv => whnf))
          | (refine brB (fun _ => ?_) (fun _ => ?_) <;> conv => whnf)
          | ((first | refine CallG.e hS ?_ | refine CallD.e hS ?_ | refine CallQ.e hS ?_); conv => whnf)
          | ((first | refine CallG.e hDl ?_ | refine CallD.e hDl ?_ | refine CallQ.e hDl ?_); conv => whnf)
          | ((first | refine CallG.e hW ?_ | refine CallD.e hW ?_ | refine CallQ.e hW ?_); conv => whnf))
        all_goals exact RetG.drop rfl rfl rfl ⟨rfl, rfl, rfl⟩
end Ink.D
