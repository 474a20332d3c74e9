import Derived.Test.YtogcalejbddjjaaGreatDoorTyN1
import Derived.Test.YtogcalejbddjjaaGreatDoorPWrF
set_option linter.all false
namespace Ink.D
open Go Go.Proofs
set_option maxRecDepth 100000
variable {E : Env} (hE : E.P = Tryz.prog)

/-! operators: ops.Write -/
def namedB (s : List UInt8) : Bool := !(decide (s = []) || decide (s = [66, 73]) || constS s || decide (s.getD 0 0 ∈ numStart)) && s.all isReg

theorem all_at {p : UInt8 → Bool} {s : List UInt8} {x : Nat} (h : x < s.length) : (s.drop x).all p = (p s[x] && (s.drop (x + 1)).all p) := by
  rw [List.drop_eq_getElem_cons h, List.all_cons]

theorem opLs_at {d : List OpL} {k : Nat} (h : k < d.length) : (opLs d).getD (k : Int).toNat [] = opE d[k] := by
  simp [opLs, h]

include hE
theorem named122 (s : List UInt8) (hs : s.length < 1000000) : PCalls E 122 [.str s] (· = .bool (namedB s)) := by
  have hc := constant138 hE s
  have hI := index47 hE numStart (s.getD 0 0) (by decide)
  have hW := fun c => white hE c
  have hD := fun c => delim hE c
  have hm := ix_mem numStart (s.getD 0 0)
  unfold numStart at hI
  have hnb : namedB s = (!(decide (s = []) || decide (s = [66, 73]) || constS s || decide (0 ≤ ix [43, 45, 46, 48, 49, 50, 51, 52, 53, 54, 55, 56, 57] (s.getD 0 0))) && s.all isReg) := by
    unfold namedB
    have : decide (s.getD 0 0 ∈ numStart) = decide (0 ≤ ix [43, 45, 46, 48, 49, 50, 51, 52, 53, 54, 55, 56, 57] (s.getD 0 0)) := decide_eq_decide.mpr hm.symm
    rw [this]
  rw [hnb]
  clear hnb hm
  generalize ix [43, 45, 46, 48, 49, 50, 51, 52, 53, 54, 55, 56, 57] (s.getD 0 0) = q at *
  refine p122 hE (fun l => ?_)
  generalize hR : s.all isReg = R
  cases hcs : constS s with
  | true =>
    rw [hcs] at hc
    conv => whnf
    repeat' (first
      | (refine And.intro W1 ?_; conv => whnf)
      | (refine brD (fun _ => ?_) (fun _ => ?_) <;> first | (exfalso; omega) | (conv => whnf))
      | (refine brB (fun _ => ?_) (fun _ => ?_) <;> conv => whnf)
      | ((first | refine CallG.e hc ?_ | refine CallD.e hc ?_ | refine CallQ.e hc ?_ | refine CallP.e hc ?_); conv => whnf)
      | ((first | refine CallG.e hI ?_ | refine CallD.e hI ?_ | refine CallQ.e hI ?_ | refine CallP.e hI ?_); conv => whnf))
    all_goals first | exact RetG.q ⟨rfl, by simp_all, rfl⟩ | skip
  | false =>
    rw [hcs] at hc
    by_cases h0 : s = []
    · subst h0
      conv => whnf
      repeat' (first
        | (refine And.intro W1 ?_; conv => whnf)
        | (refine brD (fun _ => ?_) (fun _ => ?_) <;> first | (exfalso; omega) | (conv => whnf))
        | (refine brB (fun _ => ?_) (fun _ => ?_) <;> conv => whnf)
        | ((first | refine CallG.e hc ?_ | refine CallD.e hc ?_ | refine CallQ.e hc ?_ | refine CallP.e hc ?_); conv => whnf)
        | ((first | refine CallG.e hI ?_ | refine CallD.e hI ?_ | refine CallQ.e hI ?_ | refine CallP.e hI ?_); conv => whnf))
      all_goals first | contradiction | exact RetG.q ⟨rfl, by simp, rfl⟩
    · have hpos : 0 < s.length := List.length_pos_iff.mpr h0
      conv => whnf
      repeat' (first
        | (refine And.intro W1 ?_; conv => whnf)
        | (refine brD (fun _ => ?_) (fun _ => ?_) <;> first | (exfalso; omega) | (conv => whnf))
        | (refine brB (fun _ => ?_) (fun _ => ?_) <;> conv => whnf)
        | ((first | refine CallG.e hc ?_ | refine CallD.e hc ?_ | refine CallQ.e hc ?_ | refine CallP.e hc ?_); conv => whnf)
        | ((first | refine CallG.e hI ?_ | refine CallD.e hI ?_ | refine CallQ.e hI ?_ | refine CallP.e hI ?_); conv => whnf))
      all_goals first | contradiction | exact RetG.q ⟨rfl, by simp_all, rfl⟩ | skip
      refine LoopG.s (fun x : Nat => x ≤ s.length ∧ (s.drop x).all isReg = R) 36 (fun x => [(0, .str s), (21, .int .i64 s.length), (22, .int .i64 x)]) (fun _ => frm l) (fun x => s.length - x) 0 ⟨by simp, by simpa using hR⟩ rfl ⟨rfl, rfl, rfl⟩ rfl ?_
      rintro x ⟨h1, h2⟩
      by_cases hx : x < s.length
      · have hg : s.getD (x : Int).toNat 0 = s[x] := by simp [hx]
        have ha := all_at (p := isReg) hx
        rw [show isReg s[x] = (!isWhite s[x] && !isDelim s[x]) from rfl] at ha
        have hW := hW s[x]
        have hD := hD s[x]
        rw [ha] at h2
        generalize hy3 : (s.drop (x + 1)).all isReg = y3 at *
        generalize isWhite s[x] = y1 at *
        generalize isDelim s[x] = y2 at *
        conv => whnf
        repeat' (first
          | (rw [hg]; conv => whnf)
          | (refine And.intro W1 ?_; conv => whnf)
          | (refine brD (fun _ => ?_) (fun _ => ?_) <;> first | (exfalso; omega) | (conv => whnf))
          | (refine brB (fun _ => ?_) (fun _ => ?_) <;> conv => whnf)
          | ((first | refine CallG.e hW ?_ | refine CallD.e hW ?_ | refine CallQ.e hW ?_ | refine CallP.e hW ?_); conv => whnf)
          | ((first | refine CallG.e hD ?_ | refine CallD.e hD ?_ | refine CallQ.e hD ?_ | refine CallP.e hD ?_); conv => whnf))
        · exact RetG.q ⟨rfl, by simp_all, rfl⟩
        · exact RetG.q ⟨rfl, by simp_all, rfl⟩
        · rename_i g1 g2
          exact ⟨x + 1, ⟨⟨by omega, by rw [hy3]; simpa [g1, g2] using h2⟩, by omega⟩, Wk.slots rfl ⟨rfl, rfl, rfl⟩⟩
      · have : x = s.length := by omega
        subst this
        rw [List.drop_length] at h2
        conv => whnf
        repeat' (first
          | (refine And.intro W1 ?_; conv => whnf)
          | (refine brD (fun _ => ?_) (fun _ => ?_) <;> first | (exfalso; omega) | (conv => whnf))
          | (refine brB (fun _ => ?_) (fun _ => ?_) <;> conv => whnf))
        exact RetG.q ⟨rfl, by simp_all, rfl⟩

end Ink.D
