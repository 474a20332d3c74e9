import Derived.Test.YtipdgghfkdlfmaaDoorInk6
set_option linter.all false
namespace Ink
open Go

theorem brD {p : Prop} {d : Decidable p} {A B : Prop} (ha : p → A) (hb : ¬ p → B) : (match @decide p d with | true => A | false => B) := by
  cases d with
  | isTrue h => exact ha h
  | isFalse h => exact hb h

theorem brB {b : Bool} {A B : Prop} (ha : b = true → A) (hb : b = false → B) : (match (generalizing := false) b with | true => A | false => B) := by
  cases b with
  | true => exact ha rfl
  | false => exact hb rfl

theorem stepOk {r : Res} {v : AV} {H : List Blk} {K1 : AV → List Blk → Prop} {K2 : Prop → AV → List Blk → Prop} {K3 : Prop} (h : r = .ok v H) (k : K1 v H) :
    (match (generalizing := false) r with | .ok v H' => K1 v H' | .okIf p v H' => K2 p v H' | .bad => K3) := by
  subst h; exact k

theorem stepIf {r : Res} {p : Prop} {v : AV} {H : List Blk} {K1 : AV → List Blk → Prop} {K2 : Prop → AV → List Blk → Prop} {K3 : Prop} (h : r = .okIf p v H) (k : K2 p v H) :
    (match (generalizing := false) r with | .ok v H' => K1 v H' | .okIf p v H' => K2 p v H' | .bad => K3) := by
  subst h; exact k

/-- a cell is loaded -/
theorem load_at {tm : List AV} {H : List Blk} {a : AOpd} {i ver off : Nat} {t : TypeId} {cs : List AV} {v : AV} (h1 : a.ev tm = .ptr i ver off) (h2 : liveCells H i ver = some (t, cs)) (h3 : cs[off]? = some v) :
    opRes tm H (.load none a) = .ok v H := by
  simp only [opRes, h1, h2, loadRes, getK_eq, h3]

/-- all cells are loaded -/
theorem load_all {tm : List AV} {H : List Blk} {a : AOpd} {i ver n : Nat} {t : TypeId} {cs : List AV} (h1 : a.ev tm = .ptr i ver 0) (h2 : liveCells H i ver = some (t, cs)) (h3 : cs.length = n) :
    opRes tm H (.load (some n) a) = .ok (.agg cs) H := by
  subst h3
  have e : Nat.ble (0 + cs.length) (lenK cs) = true := by rw [lenK_eq]; simp
  simp only [opRes, h1, h2, loadRes, e]
  rw [takeK_eq]
  simp [dropK]

/-- a cell is stored -/
theorem store_at {tm : List AV} {H : List Blk} {a x : AOpd} {i ver off : Nat} {t : TypeId} {cs : List AV} {v : AV} (h1 : a.ev tm = .ptr i ver off) (h2 : liveCells H i ver = some (t, cs)) (h3 : off < cs.length) (hx : x.ev tm = v) (hv : cellsOf? v = some [v]) :
    opRes tm H (.store 1 a x) = .ok .top (setK H i ⟨ver, true, .cells t (cs.set off v)⟩ id) := by
  have e : (Nat.beq (lenK [v]) 1 && Nat.ble (off + 1) (lenK cs)) = true := by rw [lenK_eq, lenK_eq]; simp; omega
  simp only [opRes, h1, h2, hx, hv, e]
  simp only [appK_eq, takeK_eq, dropK_eq, setK_eq, id]
  have : cs.set off v = cs.take off ++ v :: cs.drop (off + 1) := by rw [List.set_eq_take_append_cons_drop, if_pos h3]
  rw [this]
  rfl

end Ink
