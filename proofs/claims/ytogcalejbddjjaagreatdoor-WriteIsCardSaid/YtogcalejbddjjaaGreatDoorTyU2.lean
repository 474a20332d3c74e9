import Derived.Test.YtogcalejbddjjaaGreatDoorTyU1
import Derived.Test.YtogcalejbddjjaaGreatDoorPRefA
import Derived.Test.YtogcalejbddjjaaGreatDoorTyN1
set_option linter.all false
namespace Ink.D
open Go Go.Proofs
set_option maxRecDepth 100000
variable {E : Env} (hE : E.P = Tryz.prog)

theorem setG_app {key : List UInt8} {v : Ob} : ∀ {a b acc : List (List UInt8 × Ob)} {f : Bool}, (∀ e ∈ a, e.1 ≠ key) → setG key v (a ++ b) acc f = setG key v b (acc ++ a) f
  | [], b, acc, f, _ => by simp
  | e :: a, b, acc, f, h => by
    rw [List.cons_append, setG_same (h e (List.mem_cons_self ..)), setG_app fun x hx => h x (List.mem_cons_of_mem _ hx)]
    simp
theorem setG_drop {key : List UInt8} {v : Ob} : ∀ (d acc : List (List UInt8 × Ob)) (f : Bool), (v.kind = 0 ∨ f = true) → setG key v d acc f = (acc ++ dropD key d, f)
  | [], acc, f, _ => by simp [setG, dropD]
  | e :: d, acc, f, h => by
    by_cases he : e.1 = key
    · rw [setG_out he (by rintro ⟨h1, h2⟩; rcases h with h | h; exact h1 h; rw [h] at h2; exact absurd h2 (by decide)), setG_drop d _ _ h]
      simp [dropD, he]
    · rw [setG_same he, setG_drop d _ _ h]
      simp [dropD, he]
theorem dropD_hit {key : List UInt8} {e : List UInt8 × Ob} {d : List (List UInt8 × Ob)} (h : e.1 = key) : dropD key (e :: d) = dropD key d := by simp [dropD, h]
theorem setR_eq (d : List (List UInt8 × Ob)) (key : List UInt8) (v : Ob) : setR d key v = setD d key v := by
  unfold setR setD
  by_cases hv : v.kind = 0
  · rw [if_pos hv, setG_drop d [] false (.inl hv), if_neg (by simp [hv])]
    simp
  · rw [if_neg hv]
    rcases ixK_cases key d 0 with ⟨h1, h2⟩ | ⟨p, hp, h1, h2, h3⟩
    · have e := setG_app (key := key) (v := v) (b := []) (acc := []) (f := false) h2
      rw [List.append_nil, List.nil_append] at e
      have e3 : setG key v [] d false = (d, false) := rfl
      rw [e, e3, if_pos ⟨hv, rfl⟩, h1, if_pos (by decide), dropD_none h2]
    · have hd : d = d.take p ++ d[p] :: d.drop (p + 1) := by rw [← List.drop_eq_getElem_cons hp, List.take_append_drop]
      have e : setG key v d [] false = (d.take p ++ [(key, v)] ++ dropD key (d.drop (p + 1)), true) := by
        conv => lhs; rw [hd]
        rw [setG_app h3, setG_new h2 hv, setG_drop _ _ _ (.inr rfl)]
        simp
      have e2 : dropD key d = d.take p ++ dropD key (d.drop (p + 1)) := by
        conv => lhs; rw [hd]
        rw [dropD_append, dropD_none h3, dropD_hit h2]
      have hlen : (d.take p).length = p := by rw [List.length_take]; omega
      rw [e, h1, if_neg (by simp), if_neg (by omega), e2]
      have h4 : ((0 : Int) + (p : Int)).toNat = p := by omega
      rw [h4, insD, take_len hlen, drop_len hlen]
      simp

include hE
end Ink.D
