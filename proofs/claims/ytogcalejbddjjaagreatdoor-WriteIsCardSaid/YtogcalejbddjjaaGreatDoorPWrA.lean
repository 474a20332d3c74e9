import Derived.Test.YtogcalejbddjjaaGreatDoorPLexA
import Derived.Shelf.Strings.Builder2
import Derived.Shelf.LaysM
import Derived.Shelf.Strconv.Itoa3
import Derived.Shelf.Strings.Repeat
import Derived.Test.YtogcalejbddjjaaGreatDoorPLexB
import Derived.Test.YtogcalejbddjjaaGreatDoorInkE
import Derived.Test.YtogcalejbddjjaaGreatDoorPObj
set_option linter.all false
set_option maxRecDepth 100000
namespace Go.Proofs
open Go.Shelf
def Tryz.laysM171_ren : Go.Shelf.Ren := ⟨fun | 171 => 57 | 243 => 105 | 246 => 158 | 283 => 221 | 284 => 222 | 285 => 223 | 286 => 224 | 129 => 197 | 317 => 252 | 318 => 253 | 319 => 254 | 320 => 255 | 337 => 270 | 338 => 271 | n => n, fun | 3 => 3 | 9 => 9 | 2 => 2 | 4 => 4 | 171 => 246 | 0 => 0 | 53 => 225 | 37 => 88 | 5 => 5 | 173 => 248 | 212 => 271 | 51 => 223 | 20 => 20 | 213 => 272 | 46 => 180 | 232 => 287 | 233 => 288 | n => n, fun | 17 => 1 | 18 => 2 | 19 => 3 | n => n⟩
theorem Tryz.laysM171 : Go.Proofs.LaysM.n171 Tryz.prog Tryz.laysM171_ren := {
  mixed := by kernel_rfl
  f129 := Tryz.func197.trans (congrArg some (by kernel_rfl))
  f171 := Tryz.func57.trans (congrArg some (by kernel_rfl))
  f243 := Tryz.func105.trans (congrArg some (by kernel_rfl))
  f246 := Tryz.func158.trans (congrArg some (by kernel_rfl))
  f283 := Tryz.func221.trans (congrArg some (by kernel_rfl))
  f284 := Tryz.func222.trans (congrArg some (by kernel_rfl))
  f285 := Tryz.func223.trans (congrArg some (by kernel_rfl))
  f286 := Tryz.func224.trans (congrArg some (by kernel_rfl))
  f317 := Tryz.func252.trans (congrArg some (by kernel_rfl))
  f318 := Tryz.func253.trans (congrArg some (by kernel_rfl))
  f319 := Tryz.func254.trans (congrArg some (by kernel_rfl))
  f320 := Tryz.func255.trans (congrArg some (by kernel_rfl))
  f337 := Tryz.func270.trans (congrArg some (by kernel_rfl))
  f338 := Tryz.func271.trans (congrArg some (by kernel_rfl))
  t0 := Tryz.underlying0
  a0 := Tryz.isAgg0
  z0 := Tryz.sizeOf0
  v0 := Tryz.zeroValue0
  t2 := Tryz.underlying2
  a2 := Tryz.isAgg2
  z2 := Tryz.sizeOf2
  v2 := Tryz.zeroValue2
  t3 := Tryz.underlying3
  a3 := Tryz.isAgg3
  z3 := Tryz.sizeOf3
  v3 := Tryz.zeroValue3
  t4 := Tryz.underlying4
  a4 := Tryz.isAgg4
  z4 := Tryz.sizeOf4
  v4 := Tryz.zeroValue4
  t5 := Tryz.underlying5
  a5 := Tryz.isAgg5
  z5 := Tryz.sizeOf5
  v5 := Tryz.zeroValue5
  t9 := Tryz.underlying9
  a9 := Tryz.isAgg9
  z9 := Tryz.sizeOf9
  v9 := Tryz.zeroValue9
  t20 := Tryz.underlying20
  a20 := Tryz.isAgg20
  z20 := Tryz.sizeOf20
  v20 := Tryz.zeroValue20
  t37 := Tryz.underlying88
  a37 := Tryz.isAgg88
  z37 := Tryz.sizeOf88
  v37 := Tryz.zeroValue88
  t46 := Tryz.underlying180
  a46 := Tryz.isAgg180
  z46 := Tryz.sizeOf180
  v46 := Tryz.zeroValue180
  t51 := Tryz.underlying223
  a51 := Tryz.isAgg223
  z51 := Tryz.sizeOf223
  v51 := Tryz.zeroValue223
  t53 := Tryz.underlying225
  a53 := Tryz.isAgg225
  z53 := Tryz.sizeOf225
  v53 := Tryz.zeroValue225
  t171 := Tryz.underlying246
  a171 := Tryz.isAgg246
  z171 := Tryz.sizeOf246
  v171 := Tryz.zeroValue246
  t173 := Tryz.underlying248
  a173 := Tryz.isAgg248
  z173 := Tryz.sizeOf248
  v173 := Tryz.zeroValue248
  t212 := Tryz.underlying271
  a212 := Tryz.isAgg271
  z212 := Tryz.sizeOf271
  v212 := Tryz.zeroValue271
  t213 := Tryz.underlying272
  a213 := Tryz.isAgg272
  z213 := Tryz.sizeOf272
  t232 := Tryz.underlying287
  a232 := Tryz.isAgg287
  z232 := Tryz.sizeOf287
  v232 := Tryz.zeroValue287
  t233 := Tryz.underlying288
  a233 := Tryz.isAgg288
  z233 := Tryz.sizeOf288
  v233 := Tryz.zeroValue288
  g17 := by kernel_rfl
  g18 := by kernel_rfl
  g19 := by kernel_rfl
  i0 := by kernel_rfl
  i2 := by kernel_rfl
  i3 := by kernel_rfl
  i4 := by kernel_rfl
  i5 := by kernel_rfl
  i9 := by kernel_rfl
  i20 := by kernel_rfl
  i37 := by kernel_rfl
  i46 := by kernel_rfl
  i51 := by kernel_rfl
  i53 := by kernel_rfl
  i171 := by kernel_rfl
  i173 := by kernel_rfl
  i212 := by kernel_rfl
  i232 := by kernel_rfl
  i233 := by kernel_rfl
  m17 := by kernel_rfl
  m18 := by kernel_rfl
  m19 := by kernel_rfl }
open Go.RowKit Go.Sort Go.Lib in
theorem Tryz.strconv_Itoa (n : Int) (h0 : -9223372036854775808 ≤ n) (h1 : n ≤ 9223372036854775807) (w : World) (htab : Lib.TabIs Tryz.prog w "internal/strconv.uint64pow10" .u64 Lib.pow10Tab) :
    Calls Tryz.prog 57 #[.int .i64 n] w fun e w' => e = .returned (.string ⟨(Lib.itoa n).toArray⟩) ∧ ∃ k os, w' = grow (w.drewN k) os := Any.strconv_Itoa Tryz.laysM171 n h0 h1 w htab
def Tryz.lays105_ren : Go.Shelf.Ren := ⟨fun | 105 => 127 | 212 => 147 | 99 => 185 | 165 => 186 | 166 => 56 | 170 => 187 | 169 => 53 | 263 => 212 | 264 => 213 | 206 => 231 | 240 => 104 | 241 => 232 | 276 => 157 | 277 => 257 | n => n, fun | 9 => 9 | 3 => 3 | 4 => 4 | 20 => 20 | 0 => 0 | 46 => 180 | 109 => 189 | 5 => 5 | 72 => 90 | 76 => 97 | 51 => 223 | 146 => 226 | 53 => 225 | 148 => 237 | 70 => 87 | 37 => 88 | 75 => 96 | 127 => 156 | 164 => 194 | 80 => 92 | n => n, fun | n => n⟩
theorem Tryz.lays105 : Go.Proofs.Lays.n105 Tryz.prog Tryz.lays105_ren := {
  mixed := by kernel_rfl
  f99 := Tryz.func185.trans (congrArg some (by kernel_rfl))
  f105 := Tryz.func127.trans (congrArg some (by kernel_rfl))
  f165 := Tryz.func186.trans (congrArg some (by kernel_rfl))
  f166 := Tryz.func56.trans (congrArg some (by kernel_rfl))
  f169 := Tryz.func53.trans (congrArg some (by kernel_rfl))
  f170 := Tryz.func187.trans (congrArg some (by kernel_rfl))
  f206 := Tryz.func231.trans (congrArg some (by kernel_rfl))
  f212 := Tryz.func147.trans (congrArg some (by kernel_rfl))
  f240 := Tryz.func104.trans (congrArg some (by kernel_rfl))
  f241 := Tryz.func232.trans (congrArg some (by kernel_rfl))
  f263 := Tryz.func212.trans (congrArg some (by kernel_rfl))
  f264 := Tryz.func213.trans (congrArg some (by kernel_rfl))
  f276 := Tryz.func157.trans (congrArg some (by kernel_rfl))
  f277 := Tryz.func257.trans (congrArg some (by kernel_rfl))
  t0 := Tryz.underlying0
  a0 := Tryz.isAgg0
  z0 := Tryz.sizeOf0
  v0 := Tryz.zeroValue0
  t3 := Tryz.underlying3
  a3 := Tryz.isAgg3
  z3 := Tryz.sizeOf3
  v3 := Tryz.zeroValue3
  t4 := Tryz.underlying4
  a4 := Tryz.isAgg4
  z4 := Tryz.sizeOf4
  v4 := Tryz.zeroValue4
  t5 := Tryz.underlying5
  a5 := Tryz.isAgg5
  z5 := Tryz.sizeOf5
  v5 := Tryz.zeroValue5
  t9 := Tryz.underlying9
  a9 := Tryz.isAgg9
  z9 := Tryz.sizeOf9
  v9 := Tryz.zeroValue9
  t20 := Tryz.underlying20
  a20 := Tryz.isAgg20
  z20 := Tryz.sizeOf20
  v20 := Tryz.zeroValue20
  t37 := Tryz.underlying88
  a37 := Tryz.isAgg88
  z37 := Tryz.sizeOf88
  v37 := Tryz.zeroValue88
  t46 := Tryz.underlying180
  a46 := Tryz.isAgg180
  z46 := Tryz.sizeOf180
  v46 := Tryz.zeroValue180
  t51 := Tryz.underlying223
  a51 := Tryz.isAgg223
  z51 := Tryz.sizeOf223
  v51 := Tryz.zeroValue223
  t53 := Tryz.underlying225
  a53 := Tryz.isAgg225
  z53 := Tryz.sizeOf225
  v53 := Tryz.zeroValue225
  t70 := Tryz.underlying87
  a70 := Tryz.isAgg87
  z70 := Tryz.sizeOf87
  v70 := Tryz.zeroValue87
  t72 := Tryz.underlying90
  a72 := Tryz.isAgg90
  z72 := Tryz.sizeOf90
  v72 := Tryz.zeroValue90
  t75 := Tryz.underlying96
  a75 := Tryz.isAgg96
  z75 := Tryz.sizeOf96
  v75 := Tryz.zeroValue96
  t76 := Tryz.underlying97
  a76 := Tryz.isAgg97
  z76 := Tryz.sizeOf97
  v76 := Tryz.zeroValue97
  t109 := Tryz.underlying189
  a109 := Tryz.isAgg189
  z109 := Tryz.sizeOf189
  v109 := Tryz.zeroValue189
  t127 := Tryz.underlying156
  a127 := Tryz.isAgg156
  z127 := Tryz.sizeOf156
  v127 := Tryz.zeroValue156
  t146 := Tryz.underlying226
  a146 := Tryz.isAgg226
  z146 := Tryz.sizeOf226
  v146 := Tryz.zeroValue226
  t148 := Tryz.underlying237
  a148 := Tryz.isAgg237
  z148 := Tryz.sizeOf237
  v148 := Tryz.zeroValue237
  t164 := Tryz.underlying194
  a164 := Tryz.isAgg194
  z164 := Tryz.sizeOf194
  v164 := Tryz.zeroValue194 }
theorem Tryz.Builder_Extra_105 : Builder.Extra Tryz.prog Tryz.lays105_ren := {
  sizeBuilder := by kernel_rfl
  liesBuilder := by kernel_rfl
  t5 := Tryz.underlying5
  a5 := Tryz.isAgg5
  z5 := Tryz.sizeOf5
  v5 := Tryz.zeroValue5
  infoByte := by kernel_rfl
  cellsByte := by kernel_rfl
  sizeByte := by kernel_rfl
  neB5 := by decide }
open Go.RowKit Go.Lib in
theorem Tryz.strings_Repeat (s : ByteArray) (c : Nat) (w : World) (hc : c ≤ 9223372036854775807) (hlen : s.size * c ≤ 140737488355328) :
    Calls Tryz.prog 127 #[.string s, .int .i64 c] w fun e w' => e = .returned (.string ⟨(Lib.repeatL s.data.toList c).toArray⟩) ∧ Below w.heap.size w w' := Any.strings_Repeat Tryz.lays105 Tryz.Builder_Extra_105 s c w hc hlen
end Go.Proofs

namespace Ink.D
open Go Go.Proofs
set_option maxRecDepth 100000
variable {E : Env} (hE : E.P = Tryz.prog)

def TabE (E : Env) : Prop := ∀ c, GOk E c → Lib.TabIs Tryz.prog c.w "internal/strconv.uint64pow10" .u64 Lib.pow10Tab

include hE
theorem itoa (hT : TabE E) (n : Int) : PCalls E 57 [.int .i64 n] (· = .str (Lib.itoa n)) := by
  refine PCalls.ofCalls hE Tryz.func57 rfl (by decide) fun c vs hg hl => ?_
  match vs, hl with
  | [v], hl =>
    have hv := hl.at_ 0 _ v rfl rfl
    cases hv with
    | int _ _ h =>
      refine ⟨.string ⟨(Lib.itoa n).toArray⟩, fun d => .str _ _ (by simp), ?_⟩
      refine (Tryz.strconv_Itoa n ?_ ?_ c.w (hT c hg)).mono fun e w' ⟨h1, k, os, h2⟩ => ⟨h1, h2 ▸ below_grow⟩
      · exact h.1
      · exact h.2
  | [], hl => cases hl.len
  | _ :: _ :: _, hl => cases hl.len

theorem repeat_ (s : List UInt8) (n : Nat) (hn : n < 1000) (hs : s.length < 1000) : PCalls E 127 [.str s, .int .i64 n] (· = .str (Lib.repeatL s n)) := by
  refine PCalls.ofCalls hE Tryz.func127 rfl (by decide) fun c vs hg hl => ?_
  match vs, hl with
  | [v, u], hl =>
    have hv := hl.at_ 0 _ v rfl rfl
    have hu := hl.at_ 1 _ u rfl rfl
    cases hu with
    | int _ _ h =>
      cases hv with
      | str _ b hb =>
        refine ⟨.string ⟨(Lib.repeatL s n).toArray⟩, fun d => .str _ _ (by simp), ?_⟩
        have hsz : b.size = s.length := by rw [← hb]; rfl
        have hle : b.size * n ≤ 140737488355328 := by
          rw [hsz]
          have : s.length * n ≤ 1000 * 1000 := Nat.mul_le_mul (by omega) (by omega)
          omega
        have := Tryz.strings_Repeat b n c.w (by omega) hle
        rw [hb] at this
        exact this
  | [], hl => cases hl.len
  | [_], hl => cases hl.len
  | _ :: _ :: _ :: _, hl => cases hl.len

omit hE in
def rtrim (s : List UInt8) (c : UInt8) : List UInt8 := (s.reverse.dropWhile (· == c)).reverse

omit hE in
theorem rtrim_len (s : List UInt8) (c : UInt8) : (rtrim s c).length ≤ s.length := by
  unfold rtrim
  have := (List.dropWhile_sublist (· == c) (l := s.reverse)).length_le
  simpa using this

omit hE in
theorem rtrim_snoc (l : List UInt8) (d c : UInt8) : rtrim (l ++ [d]) c = if d = c then rtrim l c else l ++ [d] := by
  unfold rtrim
  rw [List.reverse_append, List.reverse_singleton, List.singleton_append]
  by_cases h : d = c
  · subst h; rw [List.dropWhile_cons_of_pos (by simp), if_pos rfl]
  · rw [List.dropWhile_cons_of_neg (by simpa using h), if_neg h]; simp

omit hE in
theorem last_getD (y : List UInt8) (d : UInt8) : (y ++ [d]).getD (((y ++ [d]).length : Int) - 1).toNat 0 = d := by
  have : (((y ++ [d]).length : Int) - 1).toNat = y.length := by simp
  rw [this]; simp

theorem trimRightByte (s : List UInt8) (c : UInt8) (hs : s.length < big) : PCalls E 217 [.str s, .int .u8 (c.toNat : Int)] (· = .str (rtrim s c)) := by
  unfold big at hs
  refine p217 hE fun l => ?_
  conv => whnf
  repeat' (first
    | (refine And.intro W1 ?_; conv => whnf)
    | (refine brD (fun _ => ?_) (fun _ => ?_) <;> first | (exfalso; omega) | (conv => whnf))
    | (refine brB (fun _ => ?_) (fun _ => ?_) <;> conv => whnf))
  refine LoopG.s (fun y : List UInt8 => y.length ≤ s.length ∧ rtrim y c = rtrim s c) 23 (fun y => [(0, .str y), (1, .int .u8 (c.toNat : Int)), (4, .str [])]) (fun _ => frm l) (fun y => y.length) s ⟨Nat.le_refl _, rfl⟩ rfl ⟨rfl, rfl, rfl⟩ rfl ?_
  rintro y ⟨h1, h2⟩
  rcases List.eq_nil_or_concat y with rfl | ⟨z, d, rfl⟩
  · conv => whnf
    repeat' (first
      | (refine And.intro W1 ?_; conv => whnf)
      | (refine brD (fun _ => ?_) (fun _ => ?_) <;> first | (exfalso; omega) | (conv => whnf))
      | (refine brB (fun _ => ?_) (fun _ => ?_) <;> conv => whnf))
    refine RetG.q ⟨rfl, ?_, rfl⟩
    rw [← h2]; rfl
  · rw [List.concat_eq_append] at *
    have hg := last_getD z d
    rw [rtrim_snoc] at h2
    have hl : (z ++ [d]).length = z.length + 1 := by simp
    generalize hy : z ++ [d] = y at *
    conv => whnf
    repeat' (first
      | (rw [hg]; conv => whnf)
      | (refine And.intro W1 ?_; conv => whnf)
      | (refine brD (fun _ => ?_) (fun _ => ?_) <;> first | (exfalso; omega) | (conv => whnf))
      | (refine brB (fun _ => ?_) (fun _ => ?_) <;> conv => whnf))
    · rename_i h3
      have h3 : d = c := UInt8.toNat_inj.mp (by omega)
      rw [if_pos h3] at h2
      have e : List.take ((y.length : Int) - 1).toNat y = z := by
        have : ((y.length : Int) - 1).toNat = z.length := by omega
        rw [this, ← hy]; simp
      rw [e]
      exact ⟨z, ⟨⟨by omega, h2⟩, by omega⟩, Wk.slots rfl ⟨rfl, rfl, rfl⟩⟩
    · rename_i h3
      have h3 : ¬ d = c := fun e => h3 (by rw [e])
      rw [if_neg h3] at h2
      exact RetG.q ⟨rfl, by rw [h2], rfl⟩

theorem trimRight1 (s : List UInt8) (c : UInt8) (hs : s.length < big) (hc : c.toNat < 128) : PCalls E 154 [.str s, .str [c]] (· = .str (rtrim s c)) := by
  refine p154 hE fun l => ?_
  conv => whnf
  repeat' (first
    | (refine And.intro W1 ?_; conv => whnf)
    | (refine brD (fun _ => ?_) (fun _ => ?_) <;> first | (exfalso; omega) | (conv => whnf))
    | (refine brB (fun _ => ?_) (fun _ => ?_) <;> conv => whnf)
    | ((first | refine CallG.e (trimRightByte hE s c hs) ?_ | refine CallD.e (trimRightByte hE s c hs) ?_ | refine CallQ.e (trimRightByte hE s c hs) ?_); conv => whnf))
  · rename_i h; subst h; exact RetG.q ⟨rfl, rfl, rfl⟩
  · exact RetG.q ⟨rfl, rfl, rfl⟩
  · rename_i h; exact absurd (show ((c.toNat : Nat) : Int) < 128 by omega) h

omit hE in
def sufB (s t : List UInt8) : Bool := decide (t.length ≤ s.length) && decide (s.drop (s.length - t.length) = t)

theorem hasSuffix159 (s t : List UInt8) (hs : s.length < big) (ht : t.length < big) : PCalls E 248 [.str s, .str t] (· = .bool (sufB s t)) := by
  unfold big at hs ht
  refine p248 hE fun l => ?_
  conv => whnf
  repeat' (first
    | (refine And.intro W1 ?_; conv => whnf)
    | (refine brD (fun _ => ?_) (fun _ => ?_) <;> first | (exfalso; omega) | (conv => whnf))
    | (refine brB (fun _ => ?_) (fun _ => ?_) <;> conv => whnf))
  · rename_i h
    refine RetG.q ⟨rfl, ?_, rfl⟩
    have h' : t.length ≤ s.length := by omega
    have e : ((s.length : Int) - t.length).toNat = s.length - t.length := by omega
    unfold sufB
    rw [e, decide_eq_true h', Bool.true_and]
  · rename_i h
    refine RetG.q ⟨rfl, ?_, rfl⟩
    have h' : ¬ t.length ≤ s.length := by omega
    unfold sufB
    rw [decide_eq_false h', Bool.false_and]

theorem trimSuffix143 (s t : List UInt8) (hs : s.length < big) (ht : t.length < big) : PCalls E 216 [.str s, .str t] (· = .str (if sufB s t then s.take (s.length - t.length) else s)) := by
  have h := hasSuffix159 hE s t hs ht
  unfold big at hs ht
  have hb : sufB s t = true → t.length ≤ s.length := fun h => by unfold sufB at h; simp at h; exact h.1
  refine p216 hE fun l => ?_
  conv => whnf
  repeat' (first
    | (refine And.intro W1 ?_; conv => whnf)
    | (refine brD (fun _ => ?_) (fun _ => ?_) <;> first | (exfalso; omega) | (conv => whnf))
    | (refine brB (fun _ => ?_) (fun _ => ?_) <;> conv => whnf)
    | ((first | refine CallG.e h ?_ | refine CallD.e h ?_ | refine CallQ.e h ?_); conv => whnf))
  · rename_i h
    have := hb h
    refine ⟨by omega, ?_⟩
    conv => whnf
    repeat' (first
      | (refine And.intro W1 ?_; conv => whnf)
      | (refine brD (fun _ => ?_) (fun _ => ?_) <;> first | (exfalso; omega) | (conv => whnf))
      | (refine brB (fun _ => ?_) (fun _ => ?_) <;> conv => whnf))
    refine RetG.q ⟨rfl, ?_, rfl⟩
    have e : ((s.length : Int) - t.length).toNat = s.length - t.length := by omega
    rw [e, if_pos h]
  · rename_i h
    exact RetG.q ⟨rfl, by rw [if_neg (by simp [h])], rfl⟩

theorem trimSuffix (s t : List UInt8) (hs : s.length < big) (ht : t.length < big) : PCalls E 153 [.str s, .str t] (· = .str (if sufB s t then s.take (s.length - t.length) else s)) := by
  refine p153 hE fun l => ?_
  conv => whnf
  repeat' (first
    | (refine And.intro W1 ?_; conv => whnf)
    | (refine brD (fun _ => ?_) (fun _ => ?_) <;> first | (exfalso; omega) | (conv => whnf))
    | (refine brB (fun _ => ?_) (fun _ => ?_) <;> conv => whnf)
    | ((first | refine CallG.e (trimSuffix143 hE s t hs ht) ?_ | refine CallD.e (trimSuffix143 hE s t hs ht) ?_ | refine CallQ.e (trimSuffix143 hE s t hs ht) ?_); conv => whnf))
  exact RetG.q ⟨rfl, rfl, rfl⟩

omit hE in
theorem dec_dig (u : Nat) : (Lib.decDigits u).all isDig = true ∧ 0 < (Lib.decDigits u).length := by
  induction u using Nat.strongRecOn with
  | _ u ih =>
    have one : ∀ k, k < 10 → isDig (UInt8.ofNat (48 + k)) = true := by decide
    by_cases h : u < 10
    · rw [Lib.decDigits_one h]
      simpa using one u h
    · rw [Lib.decDigits, dif_neg h]
      obtain ⟨h1, h2⟩ := ih (u / 10) (by omega)
      simp only [List.all_append, h1, List.all_cons, List.all_nil, Bool.true_and, Bool.and_true, List.length_append, List.length_cons, List.length_nil]
      exact ⟨one _ (by omega), by omega⟩

omit hE in
theorem dec_len : ∀ (k u : Nat), u < 10 ^ (k + 1) → (Lib.decDigits u).length ≤ k + 1
  | 0, u, h => by rw [Lib.decDigits_one (by simpa using h)]; simp
  | k + 1, u, h => by
    by_cases h1 : u < 10
    · rw [Lib.decDigits_one h1]; simp
    · rw [Lib.decDigits, dif_neg h1]
      have := dec_len k (u / 10) (by rw [Nat.pow_succ] at h; omega)
      simp; omega

omit hE in
def fixB (f : Int) : List UInt8 := if (Lib.decDigits f.natAbs).length ≤ 3 then Lib.repeatL [48] (4 - (Lib.decDigits f.natAbs).length) ++ Lib.decDigits f.natAbs else Lib.decDigits f.natAbs
omit hE in
def fixP (b : List UInt8) : List UInt8 := rtrim (b.take (b.length - 3) ++ [46] ++ b.drop (b.length - 3)) 48
omit hE in
def fixO (b : List UInt8) : List UInt8 := if sufB b [46] then b.take (b.length - 1) else b
omit hE in
def printL (f : Int) : List UInt8 := if f < 0 then 45 :: fixO (fixP (fixB f)) else fixO (fixP (fixB f))

omit hE in
theorem fixO_len (b : List UInt8) : (fixO (fixP b)).length ≤ b.length + 1 ∧ (fixP b).length ≤ b.length + 1 := by
  have h1 : ∀ b : List UInt8, (fixO b).length ≤ b.length := fun b => by unfold fixO; split <;> simp
  have h2 : (fixP b).length ≤ b.length + 1 := by unfold fixP; refine Nat.le_trans (rtrim_len _ _) ?_; simp; omega
  exact ⟨Nat.le_trans (h1 _) h2, h2⟩

theorem trimDot (s : List UInt8) (hs : s.length < big) : PCalls E 153 [.str s, .str [46]] (· = .str (fixO s)) := trimSuffix hE s [46] hs (by decide)

theorem print (hT : TabE E) (f : Int) (hf : mayF f = true) : PCalls E 97 [.int .i64 f] (· = .str (printL f)) := by
  have hS : PCalls E 117 [.imm 1 [[.int .i64 f]]] (· = .bool true) := by simpa [hf] using sane hE [f] (by unfold big; simp)
  have hI := itoa hE hT f
  have hm : -2147483648 ≤ f ∧ f ≤ 2147483648 := by simpa [mayF] using hf
  obtain ⟨hd, hp⟩ := dec_dig f.natAbs
  have hi : Lib.itoa f = if f < 0 then 45 :: Lib.decDigits f.natAbs else Lib.decDigits f.natAbs := by
    unfold Lib.itoa
    by_cases h : f < 0
    · rw [if_pos h, if_pos h]
    · rw [if_neg h, if_neg h]; congr 1; omega
  have hpre : (if List.isPrefixOf [45] (Lib.itoa f) then (Lib.itoa f).drop ([45] : List UInt8).length else Lib.itoa f) = Lib.decDigits f.natAbs ∧ List.isPrefixOf [45] (Lib.itoa f) = decide (f < 0) := by
    rw [hi]
    by_cases h : f < 0
    · simp [h]
    · match hD : Lib.decDigits f.natAbs, hd with
      | [], _ => simp [h]
      | c :: r, hd =>
        have : c ≠ 45 := by
          simp at hd
          intro e; subst e; simp [isDig] at hd
        have e : ((45 : UInt8) == c) = false := by simpa using this.symm
        simp [h, List.isPrefixOf, e]
  have hdl : (Lib.decDigits f.natAbs).length ≤ 10 := dec_len 9 _ (by omega)
  have hlen : (Lib.itoa f).length ≤ 11 := by rw [hi]; split <;> first | (simp only [List.length_cons]; omega) | omega
  have hC := cutPrefix hE (Lib.itoa f) [45] (by unfold big; omega) (by decide)
  rw [hpre.1, hpre.2] at hC
  have hR := repeat_ hE [48] (4 - (Lib.decDigits f.natAbs).length) (by omega) (by decide)
  have hRl : (Lib.repeatL [48] (4 - (Lib.decDigits f.natAbs).length)).length = 4 - (Lib.decDigits f.natAbs).length := by rw [Lib.repeatL_length]; simp
  have hB : fixB f = if (Lib.decDigits f.natAbs).length ≤ 3 then Lib.repeatL [48] (4 - (Lib.decDigits f.natAbs).length) ++ Lib.decDigits f.natAbs else Lib.decDigits f.natAbs := rfl
  unfold printL
  refine p97 hE fun l => ?_
  generalize Lib.decDigits f.natAbs = D at *
  generalize hrr : Lib.repeatL [48] (4 - D.length) = R at *
  have h4 : ((4 - D.length : Nat) : Int) = 4 - (D.length : Int) ∨ 3 < D.length := by omega
  by_cases h3 : D.length ≤ 3
  · rw [if_pos h3] at hB
    have e4 : ((4 - D.length : Nat) : Int) = 4 - (D.length : Int) := by omega
    rw [e4] at hR
    have hbl : (R ++ D).length = 4 := by simp; omega
    have hP : rtrim (List.take (((R ++ D).length : Int) - 3).toNat (R ++ D) ++ [46] ++ List.drop (((R ++ D).length : Int) - 3).toNat (R ++ D)) 48 = fixP (fixB f) := by
      rw [hB]; unfold fixP; rw [show (((R ++ D).length : Int) - 3).toNat = (R ++ D).length - 3 by omega]
    have hO := fixO_len (fixB f)
    rw [← hB] at hbl
    conv => whnf
    repeat' (first
      | (rw [hP]; conv => whnf)
      | (refine And.intro W1 ?_; conv => whnf)
      | (refine brD (fun _ => ?_) (fun _ => ?_) <;> first | (exfalso; omega) | (conv => whnf))
      | (refine brB (fun _ => ?_) (fun _ => ?_) <;> conv => whnf)
      | ((first | refine CallG.e hS ?_ | refine CallD.e hS ?_ | refine CallQ.e hS ?_); conv => whnf)
      | ((first | refine CallG.e hI ?_ | refine CallD.e hI ?_ | refine CallQ.e hI ?_); conv => whnf)
      | ((first | refine CallG.e hC ?_ | refine CallD.e hC ?_ | refine CallQ.e hC ?_); conv => whnf)
      | ((first | refine CallG.e hR ?_ | refine CallD.e hR ?_ | refine CallQ.e hR ?_); conv => whnf)
      | ((first | refine CallG.e (trimRight1 hE _ 48 (by unfold big; simp; omega) (by decide)) ?_ | refine CallD.e (trimRight1 hE _ 48 (by unfold big; simp; omega) (by decide)) ?_ | refine CallQ.e (trimRight1 hE _ 48 (by unfold big; simp; omega) (by decide)) ?_); conv => whnf)
      | ((first | refine CallG.e (trimDot hE _ (by unfold big; omega)) ?_ | refine CallD.e (trimDot hE _ (by unfold big; omega)) ?_ | refine CallQ.e (trimDot hE _ (by unfold big; omega)) ?_); conv => whnf))
    · exact RetG.q ⟨rfl, by rw [if_pos (by assumption)]; rfl, rfl⟩
    · exact RetG.q ⟨rfl, by rw [if_neg (by assumption)], rfl⟩
  · rw [if_neg h3] at hB
    have hP : rtrim (List.take ((D.length : Int) - 3).toNat D ++ [46] ++ List.drop ((D.length : Int) - 3).toNat D) 48 = fixP (fixB f) := by
      rw [hB]; unfold fixP; rw [show ((D.length : Int) - 3).toNat = D.length - 3 by omega]
    have hO := fixO_len (fixB f)
    have hdl2 := hdl
    rw [← hB] at hdl2
    conv => whnf
    repeat' (first
      | (rw [hP]; conv => whnf)
      | (refine And.intro W1 ?_; conv => whnf)
      | (refine brD (fun _ => ?_) (fun _ => ?_) <;> first | (exfalso; omega) | (conv => whnf))
      | (refine brB (fun _ => ?_) (fun _ => ?_) <;> conv => whnf)
      | ((first | refine CallG.e hS ?_ | refine CallD.e hS ?_ | refine CallQ.e hS ?_); conv => whnf)
      | ((first | refine CallG.e hI ?_ | refine CallD.e hI ?_ | refine CallQ.e hI ?_); conv => whnf)
      | ((first | refine CallG.e hC ?_ | refine CallD.e hC ?_ | refine CallQ.e hC ?_); conv => whnf)
      | ((first | refine CallG.e hR ?_ | refine CallD.e hR ?_ | refine CallQ.e hR ?_); conv => whnf)
      | ((first | refine CallG.e (trimRight1 hE _ 48 (by unfold big; simp; omega) (by decide)) ?_ | refine CallD.e (trimRight1 hE _ 48 (by unfold big; simp; omega) (by decide)) ?_ | refine CallQ.e (trimRight1 hE _ 48 (by unfold big; simp; omega) (by decide)) ?_); conv => whnf)
      | ((first | refine CallG.e (trimDot hE _ (by unfold big; omega)) ?_ | refine CallD.e (trimDot hE _ (by unfold big; omega)) ?_ | refine CallQ.e (trimDot hE _ (by unfold big; omega)) ?_); conv => whnf))
    · exact RetG.q ⟨rfl, by rw [if_pos (by assumption)]; rfl, rfl⟩
    · exact RetG.q ⟨rfl, by rw [if_neg (by assumption)], rfl⟩
end Ink.D

namespace Ink.D
open Go Go.Proofs
set_option maxRecDepth 100000
variable {E : Env} (hE : E.P = Tryz.prog)

include hE
theorem formatBool119 (b : Bool) : PCalls E 149 [.bool b] (· = .str (if b then [116, 114, 117, 101] else [102, 97, 108, 115, 101])) := by
  refine p149 hE fun l => ?_
  cases b
  · conv => whnf
    repeat' (first
      | (refine And.intro W1 ?_; conv => whnf)
      | (refine brD (fun _ => ?_) (fun _ => ?_) <;> first | (exfalso; omega) | (conv => whnf))
      | (refine brB (fun _ => ?_) (fun _ => ?_) <;> conv => whnf))
    exact RetG.q ⟨rfl, rfl, rfl⟩
  · conv => whnf
    repeat' (first
      | (refine And.intro W1 ?_; conv => whnf)
      | (refine brD (fun _ => ?_) (fun _ => ?_) <;> first | (exfalso; omega) | (conv => whnf))
      | (refine brB (fun _ => ?_) (fun _ => ?_) <;> conv => whnf))
    exact RetG.q ⟨rfl, rfl, rfl⟩

theorem formatBool (b : Bool) : PCalls E 93 [.bool b] (· = .str (if b then [116, 114, 117, 101] else [102, 97, 108, 115, 101])) := by
  refine p93 hE fun l => ?_
  conv => whnf
  repeat' (first
    | (refine And.intro W1 ?_; conv => whnf)
    | (refine brD (fun _ => ?_) (fun _ => ?_) <;> first | (exfalso; omega) | (conv => whnf))
    | (refine brB (fun _ => ?_) (fun _ => ?_) <;> conv => whnf)
    | ((first | refine CallG.e (formatBool119 hE b) ?_ | refine CallD.e (formatBool119 hE b) ?_ | refine CallQ.e (formatBool119 hE b) ?_); conv => whnf))
  exact RetG.q ⟨rfl, rfl, rfl⟩

theorem nested (k : Int) : PCalls E 168 [.int .i64 k] (· = .bool (decide (k = 5 ∨ k = 6 ∨ k = 8))) := by
  refine p168 hE fun l => ?_
  conv => whnf
  repeat' (first
    | (refine And.intro W1 ?_; conv => whnf)
    | (refine brD (fun _ => ?_) (fun _ => ?_) <;> first | (exfalso; omega) | (conv => whnf))
    | (refine brB (fun _ => ?_) (fun _ => ?_) <;> conv => whnf))
  all_goals
    refine RetG.q ⟨rfl, ?_, rfl⟩
    refine congrArg AV.bool ?_
    first | (rw [decide_eq_true (by omega)]; done) | (symm; rw [decide_eq_false (by omega)]; done) | (symm; rw [decide_eq_true (by omega)]; done) | (rw [decide_eq_decide]; omega)

omit hE in
def shapeL (k n f : Int) : Int :=
  if k = 0 ∨ k = 3 ∨ k = 4 ∨ k = 5 then 0
  else if k = 1 then (if bits .andNot .i64 n 1 = 0 then 0 else 1)
  else if k = 2 then (if bits .andNot .i64 n 1 = 0 ∧ ¬ (n = 1 ∧ f.tmod 1000 ≠ 0) then 0 else 1)
  else if k = 7 then (if n < 0 ∨ f < 0 ∨ f.tmod 1000 ≠ 0 then 1 else 0)
  else 1

theorem shape (k n f : Int) (s : List UInt8) (l : List Ob) (d : List (List UInt8 × Ob)) (deep : Int) (h6 : k ≠ 6) (h8 : k ≠ 8) :
    PCalls E 111 [.agg (obC (.mk k n f s l d)), .int .i64 deep] (· = .int .i64 (shapeL k n f)) := by
  refine p111 hE (fun l => ?_) (by simp [hbL, hb, obC_hb])
  unfold obC
  conv => whnf
  repeat' (first
    | (refine And.intro W1 ?_; conv => whnf)
    | (refine brD (fun _ => ?_) (fun _ => ?_) <;> first | (exfalso; omega) | (conv => whnf))
    | (refine brB (fun _ => ?_) (fun _ => ?_) <;> conv => whnf))
  all_goals
    refine RetG.drop rfl rfl rfl ⟨rfl, congrArg (AV.int .i64) ?_, rfl⟩
    unfold shapeL
    (repeat' split) <;> first | rfl | omega

omit hE in
def sizeL (k n f : Int) (nl nd : Nat) (deep : Int) : Int :=
  if (k = 2 ∧ mayF f = false) ∨ (k = 7 ∧ (mayF f = false ∨ n > 2147483)) then 2
  else if ¬ (k = 5 ∨ k = 6 ∨ k = 8) then 0
  else if (if k = 5 then nl else nd) > 1024 then 6
  else if deep ≥ 64 then 5 else 0

theorem size (k n f : Int) (s : List UInt8) (l_ : List Ob) (d : List (List UInt8 × Ob)) (deep : Int) (hnl : l_.length < big) (hnd : d.length < big) :
    PCalls E 112 [.agg (obC (.mk k n f s l_ d)), .int .i64 deep] (· = .int .i64 (sizeL k n f l_.length d.length deep)) := by
  have hS : PCalls E 117 [.imm 1 [[.int .i64 f]]] (· = .bool (mayF f)) := by simpa using sane hE [f] (by unfold big; simp)
  unfold big at hnl hnd
  have hl : (obL l_).length = l_.length := by rw [obL_map]; simp
  have hd : (obD d).length = d.length := by rw [obD_map]; simp
  refine p112 hE (fun l => ?_) (by simp [hbL, hb, obC_hb])
  unfold obC
  generalize obL l_ = L at *
  generalize obD d = D at *
  rw [← hl, ← hd]
  conv => whnf
  repeat' (first
    | (refine And.intro W1 ?_; conv => whnf)
    | (refine brD (fun _ => ?_) (fun _ => ?_) <;> first | (exfalso; omega) | (conv => whnf))
    | (refine brB (fun _ => ?_) (fun _ => ?_) <;> conv => whnf)
    | ((first | refine CallG.e hS ?_ | refine CallD.e hS ?_ | refine CallQ.e hS ?_); conv => whnf)
    | ((first | refine CallG.e (nested hE k) ?_ | refine CallD.e (nested hE k) ?_ | refine CallQ.e (nested hE k) ?_); conv => whnf))
  all_goals
    refine RetG.drop rfl rfl rfl ⟨rfl, congrArg (AV.int .i64) ?_, rfl⟩
    simp only [Bool.not_eq_true', Bool.not_eq_false', decide_eq_true_eq, decide_eq_false_iff_not] at *
    unfold sizeL
    (repeat' split) <;> first | rfl | omega | (exfalso; simp_all; done) | (exfalso; simp_all; omega)
end Ink.D

namespace Ink.D
open Go Go.Proofs
set_option maxRecDepth 100000
variable {E : Env} (hE : E.P = Tryz.prog)

mutual
def saneL : Ob → Int → Int
  | .mk k n f _ l d, deep => if shapeL k n f ≠ 0 then shapeL k n f else if sizeL k n f l.length d.length deep ≠ 0 then sizeL k n f l.length d.length deep else if k = 5 then saneLs l (deep + 1) else 0
def saneLs : List Ob → Int → Int
  | [], _ => 0
  | o :: r, deep => if saneL o deep ≠ 0 then saneL o deep else saneLs r deep
end

mutual
def noD : Ob → Bool
  | .mk k _ _ _ l d => decide (k ≠ 6) && decide (k ≠ 8) && decide (l.length < big) && decide (d.length < big) && noDs l
def noDs : List Ob → Bool
  | [] => true
  | o :: r => noD o && noDs r
end

theorem noDs_at : ∀ {l : List Ob} {k : Nat} (h : k < l.length), noDs l = true → noD l[k] = true
  | o :: r, 0, _, h => by simp [noDs] at h; exact h.1
  | o :: r, k + 1, hk, h => by simp [noDs] at h; exact noDs_at (l := r) (by simpa using hk) h.2

theorem saneLs_append (deep : Int) : ∀ (a b : List Ob), saneLs (a ++ b) deep = if saneLs a deep ≠ 0 then saneLs a deep else saneLs b deep
  | [], b => by simp [saneLs]
  | o :: r, b => by
    simp only [List.cons_append, saneLs, saneLs_append deep r b]
    split <;> simp_all

theorem saneLs_hit {l : List Ob} {deep : Int} {x : Nat} (hx : x < l.length) (h0 : saneLs (l.take x) deep = 0) (h1 : saneL l[x] deep ≠ 0) : saneLs l deep = saneL l[x] deep := by
  conv => lhs; rw [← List.take_append_drop x l, List.drop_eq_getElem_cons hx]
  rw [saneLs_append, if_neg (by simp [h0]), saneLs, if_pos h1]

theorem saneLs_next {l : List Ob} {deep : Int} {x : Nat} (hx : x < l.length) (h0 : saneLs (l.take x) deep = 0) (h1 : saneL l[x] deep = 0) : saneLs (l.take (x + 1)) deep = 0 := by
  rw [List.take_succ_eq_append_getElem hx, saneLs_append, if_neg (by simp [h0])]
  simp [saneLs, h1]

theorem obD_len (d : List (List UInt8 × Ob)) : (obD d).length = d.length := by rw [obD_map]; simp

include hE
theorem inside (k n f : Int) (s : List UInt8) (l_ : List Ob) (d : List (List UInt8 × Ob)) (h6 : k ≠ 6) (h8 : k ≠ 8) :
    PCalls E 113 [.agg (obC (.mk k n f s l_ d))] (· = if k = 5 then .imm 6 (obL l_) else .lit (.slice none 0 0)) := by
  refine p113 hE (fun l => ?_) (by simp [hbL, hb, obC_hb])
  have hL := obL_hb (n0 := 0) l_
  have hL1 := obL_hb (n0 := 1) l_
  unfold obC
  generalize obL l_ = L at *
  generalize obD d = D at *
  conv => whnf
  repeat' (first
    | (refine And.intro W1 ?_; conv => whnf)
    | (refine brD (fun _ => ?_) (fun _ => ?_) <;> first | (exfalso; omega) | (conv => whnf))
    | (refine brB (fun _ => ?_) (fun _ => ?_) <;> conv => whnf))
  · refine RetG.drop hL1 rfl rfl ⟨hL, by rw [if_pos (by assumption)], rfl⟩
  · refine RetG.drop rfl rfl rfl ⟨rfl, by rw [if_neg (by assumption)], rfl⟩


set_option maxHeartbeats 1000000 in
theorem sane90 : ∀ (m : Nat) (o : Ob), sizeOf o < m → noD o = true → ∀ deep, 0 ≤ deep → deep ≤ 64 → PCalls E 62 [.agg (obC o), .int .i64 deep] (· = .int .i64 (saneL o deep))
  | 0, _, h, _, _, _, _ => absurd h (Nat.not_lt_zero _)
  | m + 1, .mk k n f s l_ d, hm, hno, deep, hd0, hd1 => by
    have hno' : ((k ≠ 6 ∧ k ≠ 8) ∧ l_.length < big) ∧ d.length < big := by simp only [noD, Bool.and_eq_true, decide_eq_true_eq] at hno; exact ⟨⟨⟨hno.1.1.1.1, hno.1.1.1.2⟩, hno.1.1.2⟩, hno.1.2⟩
    have hnos : noDs l_ = true := by simp only [noD, Bool.and_eq_true] at hno; exact hno.2
    obtain ⟨⟨⟨h6, h8⟩, hnl⟩, hnd⟩ := hno'
    have hSh := shape hE k n f s l_ d deep h6 h8
    have hSz := size hE k n f s l_ d deep hnl hnd
    have hIn := inside hE k n f s l_ d h6 h8
    have hlen := obL_len l_
    have hsz0 : k = 5 → sizeL k n f l_.length d.length deep = 0 → deep < 64 := by
      intro h5 h
      unfold sizeL at h
      (repeat' split at h) <;> omega
    have hit := fun (x : Nat) (hx : x < l_.length) => saneLs_hit (deep := deep + 1) hx
    have nxt := fun (x : Nat) (hx : x < l_.length) => saneLs_next (deep := deep + 1) hx
    have hL : ∀ n0, hbLL n0 (obL l_) = true := fun n0 => obL_hb l_
    have hD : ∀ n0, hbLL n0 (obD d) = true := fun n0 => obD_hb d
    have ih : ∀ (x : Nat) (hx : x < l_.length), 0 ≤ deep + 1 → deep + 1 ≤ 64 → PCalls E 62 [.agg (obC l_[x]), .int .i64 (deep + 1)] (· = .int .i64 (saneL l_[x] (deep + 1))) := fun x hx a b =>
      sane90 m _ (by
        have := List.sizeOf_lt_of_mem (List.getElem_mem hx)
        simp only [Ob.mk.sizeOf_spec] at hm
        omega) (noDs_at hx hnos) _ a b
    refine p62 hE (fun l => ?_) (by simp [hbL, hb, obC_hb])
    unfold saneL
    unfold obC at hSh hSz hIn ⊢
    unfold big at hnl hnd
    by_cases h5 : k = 5
    · rw [if_pos h5] at hIn
      conv => whnf
      repeat' (first
        | (refine And.intro W1 ?_; conv => whnf)
        | (refine brD (fun _ => ?_) (fun _ => ?_) <;> first | (exfalso; omega) | (conv => whnf))
        | (refine brB (fun _ => ?_) (fun _ => ?_) <;> conv => whnf)
        | ((first | refine CallG.e hSh ?_ | refine CallD.e hSh ?_ | refine CallQ.e hSh ?_ | refine CallP.e hSh ?_); conv => whnf)
        | ((first | refine CallG.e hSz ?_ | refine CallD.e hSz ?_ | refine CallQ.e hSz ?_ | refine CallP.e hSz ?_); conv => whnf)
        | ((first | refine CallG.e hIn ?_ | refine CallD.e hIn ?_ | refine CallQ.e hIn ?_ | refine CallP.e hIn ?_); conv => whnf))
      · exact RetG.drop rfl rfl rfl ⟨rfl, by rw [if_pos (by assumption)], rfl⟩
      · exact RetG.drop rfl rfl rfl ⟨rfl, by rw [if_neg (by assumption), if_pos (by assumption)], rfl⟩
      rename_i h1 h2
      rw [if_neg h1, if_neg h2]
      rw [if_pos h5]
      have hd := hsz0 h5 (by omega)
      refine LoopG.s (fun x : Nat => x ≤ l_.length ∧ saneLs (l_.take x) (deep + 1) = 0) 37 (fun x => [(1, .int .i64 deep), (2, .ptr 1 0 0), (4, .int .i64 0), (23, .imm 6 (obL l_)), (24, .int .i64 (obL l_).length), (25, .int .i64 x)]) (fun _ => [⟨0, true, .frame l⟩, ⟨0, true, .cells 26 [.int .i64 k, .int .i64 n, .int .i64 f, .str s, .imm 6 (obL l_), .imm 7 (obD d)]⟩]) (fun x => l_.length - x) 0 ⟨by simp, by simp [saneLs]⟩ rfl ⟨rfl, rfl, rfl, rfl, rfl, rfl⟩ rfl ?_
      rintro x ⟨i1, i2⟩
      by_cases hx : x < l_.length
      · have hg := obL_at hx
        have hC := ih x hx (by omega) (by omega)
        have hh := hit x hx i2
        have hn := nxt x hx i2
        have hcl : ∃ c0 c1 c2 c3 c4 c5, obC l_[x] = [c0, c1, c2, c3, c4, c5] := by cases l_[x]; exact ⟨_, _, _, _, _, _, rfl⟩
        obtain ⟨c0, c1, c2, c3, c4, c5, hc⟩ := hcl
        rw [hc] at hg hC
        generalize saneL l_[x] (deep + 1) = e at *
        conv => whnf
        repeat' (first
          | (rw [hg]; conv => whnf)
          | (refine And.intro W1 ?_; conv => whnf)
          | (refine brD (fun _ => ?_) (fun _ => ?_) <;> first | (exfalso; omega) | (conv => whnf))
          | (refine brB (fun _ => ?_) (fun _ => ?_) <;> conv => whnf)
          | ((first | refine CallG.e hC ?_ | refine CallD.e hC ?_ | refine CallQ.e hC ?_ | refine CallP.e hC ?_); conv => whnf))
        · exact RetG.drop rfl rfl rfl ⟨rfl, by rw [hh (by assumption)], rfl⟩
        · exact ⟨x + 1, ⟨⟨by omega, hn (by omega)⟩, by omega⟩, Wk.cut 2 rfl rfl rfl ⟨⟨_, rfl, .same _ rfl⟩, ⟨_, rfl, .same _ rfl⟩, ⟨_, rfl, .same _ rfl⟩, ⟨_, rfl, .same _ (hL 2)⟩, ⟨_, rfl, .same _ rfl⟩, ⟨_, rfl, .same _ rfl⟩, trivial⟩ rfl (by simp [hbH, hbB, hbL, hb, hL, hD])⟩
      · conv => whnf
        repeat' (first
          | (refine And.intro W1 ?_; conv => whnf)
          | (refine brD (fun _ => ?_) (fun _ => ?_) <;> first | (exfalso; omega) | (conv => whnf))
          | (refine brB (fun _ => ?_) (fun _ => ?_) <;> conv => whnf))
        have : x = l_.length := by omega
        subst this
        rw [List.take_length] at i2
        exact RetG.drop rfl rfl rfl ⟨rfl, by rw [i2], rfl⟩
    · rw [if_neg h5] at hIn
      conv => whnf
      repeat' (first
        | (refine And.intro W1 ?_; conv => whnf)
        | (refine brD (fun _ => ?_) (fun _ => ?_) <;> first | (exfalso; omega) | (conv => whnf))
        | (refine brB (fun _ => ?_) (fun _ => ?_) <;> conv => whnf)
        | ((first | refine CallG.e hSh ?_ | refine CallD.e hSh ?_ | refine CallQ.e hSh ?_ | refine CallP.e hSh ?_); conv => whnf)
        | ((first | refine CallG.e hSz ?_ | refine CallD.e hSz ?_ | refine CallQ.e hSz ?_ | refine CallP.e hSz ?_); conv => whnf)
        | ((first | refine CallG.e hIn ?_ | refine CallD.e hIn ?_ | refine CallQ.e hIn ?_ | refine CallP.e hIn ?_); conv => whnf))
      · exact RetG.drop rfl rfl rfl ⟨rfl, by rw [if_pos (by assumption)], rfl⟩
      · exact RetG.drop rfl rfl rfl ⟨rfl, by rw [if_neg (by assumption), if_pos (by assumption)], rfl⟩
      rename_i h1 h2
      rw [if_neg h1, if_neg h2]
      rw [if_neg h5]
      refine LoopG.s (fun x : Nat => x = 0) 37 (fun x => [(4, .int .i64 0), (23, .lit (.slice none 0 0)), (24, .int .i64 0), (25, .int .i64 0)]) (fun _ => [⟨0, true, .frame l⟩, ⟨0, true, .cells 26 [.int .i64 k, .int .i64 n, .int .i64 f, .str s, .imm 6 (obL l_), .imm 7 (obD d)]⟩]) (fun x => x) 0 rfl rfl ⟨rfl, rfl, rfl, rfl⟩ rfl ?_
      rintro x -
      conv => whnf
      repeat' (first
        | (refine And.intro W1 ?_; conv => whnf)
        | (refine brD (fun _ => ?_) (fun _ => ?_) <;> first | (exfalso; omega) | (conv => whnf))
        | (refine brB (fun _ => ?_) (fun _ => ?_) <;> conv => whnf))
      exact RetG.drop rfl rfl rfl ⟨rfl, rfl, rfl⟩

theorem sane60 (o : Ob) (hno : noD o = true) : PCalls E 23 [.agg (obC o)] (· = .int .i64 (saneL o 0)) := by
  have h := sane90 hE _ o (Nat.lt_succ_self _) hno 0 (by decide) (by decide)
  refine p23 hE (fun l => ?_) (by simp [hbL, hb, obC_hb])
  cases o with
  | mk k n f s l_ d =>
    unfold obC at h ⊢
    conv => whnf
    repeat' (first
      | (refine And.intro W1 ?_; conv => whnf)
      | (refine brD (fun _ => ?_) (fun _ => ?_) <;> first | (exfalso; omega) | (conv => whnf))
      | (refine brB (fun _ => ?_) (fun _ => ?_) <;> conv => whnf)
      | ((first | refine CallG.e h ?_ | refine CallD.e h ?_ | refine CallQ.e h ?_ | refine CallP.e h ?_); conv => whnf))
    exact RetG.drop rfl rfl rfl ⟨rfl, rfl, rfl⟩
end Ink.D
