import Derived.Test.YtogcalejbddjjaaGreatDoorPCode
import Derived.Test.YtogcalejbddjjaaGreatDoorProg
import Derived.Lib.Builder
import Derived.Lib.UnsafeStr
import Derived.Laws.Externs
import Derived.Deep.QuietTactic
import Derived.BigQuiet
import Derived.Lib.Bytealg
set_option linter.all false
namespace Ink.D
open Go Go.Proofs
set_option maxRecDepth 100000
theorem hm : Tryz.prog.follows .mixedOrders = true := by kernel_rfl
abbrev EntA (E : Env) (n : Nat) (ac : AF) : Prop := ∀ {args : List AV} {H : List Blk} {Q : AV → List Blk → Prop}, wpc E H ac.body (retQ E H ac.results Q) ⟨enterTm args ac.ntmps, H⟩ → ACalls E n args H Q
abbrev EntP (E : Env) (n : Nat) (ac : AF) : Prop := ∀ {args : List AV} {Q : AV → Prop}, (∀ l, wpc E (frm l) ac.body (retQ E (frm l) ac.results fun r H' => hb 0 r = true ∧ Q r ∧ H' = frm l) ⟨enterTm args ac.ntmps, frm l⟩) → (hp : hbL 0 args = true := by rfl) → PCalls E n args Q
abbrev EntB (E : Env) (n : Nat) (ac : AF) : Prop := ∀ {args : List AV} {ks : List BK} {Q : AV → List BK → Prop}, (∀ l, wpc E (frmB l ks) ac.body (retQ E (frmB l ks) ac.results (RB l ks Q)) ⟨enterTm args ac.ntmps, frmB l ks⟩) → BCalls E n args ks Q
theorem ent_a {E : Env} (hE : E.P = Tryz.prog) {n : Nat} {f : Func} {ac : AF} (hf : Tryz.prog.funcs[n]? = some f) (hc : cFn Tryz.prog (mtOf (f.body.getD .skip)) f = some ac) : EntA E n ac :=
  fun h => ACalls.enter (by rw [hE]; exact hm) (by rw [hE]; exact hf) (by rw [hE]; exact hc) h
theorem ent_p {E : Env} {n : Nat} {ac : AF} (h : EntA E n ac) : EntP E n ac := fun k hp => PCalls.mk hp fun l => h (k l)
theorem ent_b {E : Env} {n : Nat} {ac : AF} (h : EntA E n ac) : EntB E n ac := fun k => BCalls.mk fun l => h (k l)

theorem c3 : cFn Tryz.prog (mtOf (Tryz.f3.body.getD .skip)) Tryz.f3 = some ac3 := by kernel_rfl
theorem a3 {E : Env} (hE : E.P = Tryz.prog) : EntA E 3 ac3 := ent_a hE Tryz.func3 c3
theorem p3 {E : Env} (hE : E.P = Tryz.prog) : EntP E 3 ac3 := fun k hp => ent_p (@a3 E hE) k hp
theorem c17 : cFn Tryz.prog (mtOf (Tryz.f17.body.getD .skip)) Tryz.f17 = some ac17 := by kernel_rfl
theorem a17 {E : Env} (hE : E.P = Tryz.prog) : EntA E 17 ac17 := ent_a hE Tryz.func17 c17
theorem p17 {E : Env} (hE : E.P = Tryz.prog) : EntP E 17 ac17 := fun k hp => ent_p (@a17 E hE) k hp
theorem c18 : cFn Tryz.prog (mtOf (Tryz.f18.body.getD .skip)) Tryz.f18 = some ac18 := by kernel_rfl
theorem a18 {E : Env} (hE : E.P = Tryz.prog) : EntA E 18 ac18 := ent_a hE Tryz.func18 c18
theorem p18 {E : Env} (hE : E.P = Tryz.prog) : EntP E 18 ac18 := fun k hp => ent_p (@a18 E hE) k hp
theorem c19 : cFn Tryz.prog (mtOf (Tryz.f19.body.getD .skip)) Tryz.f19 = some ac19 := by kernel_rfl
theorem a19 {E : Env} (hE : E.P = Tryz.prog) : EntA E 19 ac19 := ent_a hE Tryz.func19 c19
theorem p19 {E : Env} (hE : E.P = Tryz.prog) : EntP E 19 ac19 := fun k hp => ent_p (@a19 E hE) k hp
theorem c20 : cFn Tryz.prog (mtOf (Tryz.f20.body.getD .skip)) Tryz.f20 = some ac20 := by kernel_rfl
theorem a20 {E : Env} (hE : E.P = Tryz.prog) : EntA E 20 ac20 := ent_a hE Tryz.func20 c20
theorem p20 {E : Env} (hE : E.P = Tryz.prog) : EntP E 20 ac20 := fun k hp => ent_p (@a20 E hE) k hp
theorem c21 : cFn Tryz.prog (mtOf (Tryz.f21.body.getD .skip)) Tryz.f21 = some ac21 := by kernel_rfl
theorem a21 {E : Env} (hE : E.P = Tryz.prog) : EntA E 21 ac21 := ent_a hE Tryz.func21 c21
theorem p21 {E : Env} (hE : E.P = Tryz.prog) : EntP E 21 ac21 := fun k hp => ent_p (@a21 E hE) k hp
theorem c22 : cFn Tryz.prog (mtOf (Tryz.f22.body.getD .skip)) Tryz.f22 = some ac22 := by kernel_rfl
theorem a22 {E : Env} (hE : E.P = Tryz.prog) : EntA E 22 ac22 := ent_a hE Tryz.func22 c22
theorem p22 {E : Env} (hE : E.P = Tryz.prog) : EntP E 22 ac22 := fun k hp => ent_p (@a22 E hE) k hp
theorem c23 : cFn Tryz.prog (mtOf (Tryz.f23.body.getD .skip)) Tryz.f23 = some ac23 := by kernel_rfl
theorem a23 {E : Env} (hE : E.P = Tryz.prog) : EntA E 23 ac23 := ent_a hE Tryz.func23 c23
theorem p23 {E : Env} (hE : E.P = Tryz.prog) : EntP E 23 ac23 := fun k hp => ent_p (@a23 E hE) k hp
theorem c24 : cFn Tryz.prog (mtOf (Tryz.f24.body.getD .skip)) Tryz.f24 = some ac24 := by kernel_rfl
theorem a24 {E : Env} (hE : E.P = Tryz.prog) : EntA E 24 ac24 := ent_a hE Tryz.func24 c24
theorem p24 {E : Env} (hE : E.P = Tryz.prog) : EntP E 24 ac24 := fun k hp => ent_p (@a24 E hE) k hp
theorem c51 : cFn Tryz.prog (mtOf (Tryz.f51.body.getD .skip)) Tryz.f51 = some ac51 := by kernel_rfl
theorem a51 {E : Env} (hE : E.P = Tryz.prog) : EntA E 51 ac51 := ent_a hE Tryz.func51 c51
theorem p51 {E : Env} (hE : E.P = Tryz.prog) : EntP E 51 ac51 := fun k hp => ent_p (@a51 E hE) k hp
theorem c52 : cFn Tryz.prog (mtOf (Tryz.f52.body.getD .skip)) Tryz.f52 = some ac52 := by kernel_rfl
theorem a52 {E : Env} (hE : E.P = Tryz.prog) : EntA E 52 ac52 := ent_a hE Tryz.func52 c52
theorem c54 : cFn Tryz.prog (mtOf (Tryz.f54.body.getD .skip)) Tryz.f54 = some ac54 := by kernel_rfl
theorem a54 {E : Env} (hE : E.P = Tryz.prog) : EntA E 54 ac54 := ent_a hE Tryz.func54 c54
theorem p54 {E : Env} (hE : E.P = Tryz.prog) : EntP E 54 ac54 := fun k hp => ent_p (@a54 E hE) k hp
theorem c55 : cFn Tryz.prog (mtOf (Tryz.f55.body.getD .skip)) Tryz.f55 = some ac55 := by kernel_rfl
theorem a55 {E : Env} (hE : E.P = Tryz.prog) : EntA E 55 ac55 := ent_a hE Tryz.func55 c55
theorem p55 {E : Env} (hE : E.P = Tryz.prog) : EntP E 55 ac55 := fun k hp => ent_p (@a55 E hE) k hp
theorem c56 : cFn Tryz.prog (mtOf (Tryz.f56.body.getD .skip)) Tryz.f56 = some ac56 := by kernel_rfl
theorem a56 {E : Env} (hE : E.P = Tryz.prog) : EntA E 56 ac56 := ent_a hE Tryz.func56 c56
theorem b56 {E : Env} (hE : E.P = Tryz.prog) : EntB E 56 ac56 := fun k => ent_b (@a56 E hE) k
theorem c58 : cFn Tryz.prog (mtOf (Tryz.f58.body.getD .skip)) Tryz.f58 = some ac58 := by kernel_rfl
theorem a58 {E : Env} (hE : E.P = Tryz.prog) : EntA E 58 ac58 := ent_a hE Tryz.func58 c58
theorem p58 {E : Env} (hE : E.P = Tryz.prog) : EntP E 58 ac58 := fun k hp => ent_p (@a58 E hE) k hp
theorem c59 : cFn Tryz.prog (mtOf (Tryz.f59.body.getD .skip)) Tryz.f59 = some ac59 := by kernel_rfl
theorem a59 {E : Env} (hE : E.P = Tryz.prog) : EntA E 59 ac59 := ent_a hE Tryz.func59 c59
theorem p59 {E : Env} (hE : E.P = Tryz.prog) : EntP E 59 ac59 := fun k hp => ent_p (@a59 E hE) k hp
theorem c60 : cFn Tryz.prog (mtOf (Tryz.f60.body.getD .skip)) Tryz.f60 = some ac60 := by kernel_rfl
theorem a60 {E : Env} (hE : E.P = Tryz.prog) : EntA E 60 ac60 := ent_a hE Tryz.func60 c60
theorem p60 {E : Env} (hE : E.P = Tryz.prog) : EntP E 60 ac60 := fun k hp => ent_p (@a60 E hE) k hp
theorem c61 : cFn Tryz.prog (mtOf (Tryz.f61.body.getD .skip)) Tryz.f61 = some ac61 := by kernel_rfl
theorem a61 {E : Env} (hE : E.P = Tryz.prog) : EntA E 61 ac61 := ent_a hE Tryz.func61 c61
theorem p61 {E : Env} (hE : E.P = Tryz.prog) : EntP E 61 ac61 := fun k hp => ent_p (@a61 E hE) k hp
theorem c62 : cFn Tryz.prog (mtOf (Tryz.f62.body.getD .skip)) Tryz.f62 = some ac62 := by kernel_rfl
theorem a62 {E : Env} (hE : E.P = Tryz.prog) : EntA E 62 ac62 := ent_a hE Tryz.func62 c62
theorem p62 {E : Env} (hE : E.P = Tryz.prog) : EntP E 62 ac62 := fun k hp => ent_p (@a62 E hE) k hp
theorem c63 : cFn Tryz.prog (mtOf (Tryz.f63.body.getD .skip)) Tryz.f63 = some ac63 := by kernel_rfl
theorem a63 {E : Env} (hE : E.P = Tryz.prog) : EntA E 63 ac63 := ent_a hE Tryz.func63 c63
theorem p63 {E : Env} (hE : E.P = Tryz.prog) : EntP E 63 ac63 := fun k hp => ent_p (@a63 E hE) k hp
theorem c93 : cFn Tryz.prog (mtOf (Tryz.f93.body.getD .skip)) Tryz.f93 = some ac93 := by kernel_rfl
theorem a93 {E : Env} (hE : E.P = Tryz.prog) : EntA E 93 ac93 := ent_a hE Tryz.func93 c93
theorem p93 {E : Env} (hE : E.P = Tryz.prog) : EntP E 93 ac93 := fun k hp => ent_p (@a93 E hE) k hp
theorem c94 : cFn Tryz.prog (mtOf (Tryz.f94.body.getD .skip)) Tryz.f94 = some ac94 := by kernel_rfl
theorem a94 {E : Env} (hE : E.P = Tryz.prog) : EntA E 94 ac94 := ent_a hE Tryz.func94 c94
theorem p94 {E : Env} (hE : E.P = Tryz.prog) : EntP E 94 ac94 := fun k hp => ent_p (@a94 E hE) k hp
theorem c95 : cFn Tryz.prog (mtOf (Tryz.f95.body.getD .skip)) Tryz.f95 = some ac95 := by kernel_rfl
theorem a95 {E : Env} (hE : E.P = Tryz.prog) : EntA E 95 ac95 := ent_a hE Tryz.func95 c95
theorem p95 {E : Env} (hE : E.P = Tryz.prog) : EntP E 95 ac95 := fun k hp => ent_p (@a95 E hE) k hp
theorem c96 : cFn Tryz.prog (mtOf (Tryz.f96.body.getD .skip)) Tryz.f96 = some ac96 := by kernel_rfl
theorem a96 {E : Env} (hE : E.P = Tryz.prog) : EntA E 96 ac96 := ent_a hE Tryz.func96 c96
theorem p96 {E : Env} (hE : E.P = Tryz.prog) : EntP E 96 ac96 := fun k hp => ent_p (@a96 E hE) k hp
theorem c97 : cFn Tryz.prog (mtOf (Tryz.f97.body.getD .skip)) Tryz.f97 = some ac97 := by kernel_rfl
theorem a97 {E : Env} (hE : E.P = Tryz.prog) : EntA E 97 ac97 := ent_a hE Tryz.func97 c97
theorem p97 {E : Env} (hE : E.P = Tryz.prog) : EntP E 97 ac97 := fun k hp => ent_p (@a97 E hE) k hp
theorem c98 : cFn Tryz.prog (mtOf (Tryz.f98.body.getD .skip)) Tryz.f98 = some ac98 := by kernel_rfl
theorem a98 {E : Env} (hE : E.P = Tryz.prog) : EntA E 98 ac98 := ent_a hE Tryz.func98 c98
theorem b98 {E : Env} (hE : E.P = Tryz.prog) : EntB E 98 ac98 := fun k => ent_b (@a98 E hE) k
theorem c99 : cFn Tryz.prog (mtOf (Tryz.f99.body.getD .skip)) Tryz.f99 = some ac99 := by kernel_rfl
theorem a99 {E : Env} (hE : E.P = Tryz.prog) : EntA E 99 ac99 := ent_a hE Tryz.func99 c99
theorem c100 : cFn Tryz.prog (mtOf (Tryz.f100.body.getD .skip)) Tryz.f100 = some ac100 := by kernel_rfl
theorem a100 {E : Env} (hE : E.P = Tryz.prog) : EntA E 100 ac100 := ent_a hE Tryz.func100 c100
theorem b100 {E : Env} (hE : E.P = Tryz.prog) : EntB E 100 ac100 := fun k => ent_b (@a100 E hE) k
theorem c101 : cFn Tryz.prog (mtOf (Tryz.f101.body.getD .skip)) Tryz.f101 = some ac101 := by kernel_rfl
theorem a101 {E : Env} (hE : E.P = Tryz.prog) : EntA E 101 ac101 := ent_a hE Tryz.func101 c101
theorem b101 {E : Env} (hE : E.P = Tryz.prog) : EntB E 101 ac101 := fun k => ent_b (@a101 E hE) k
theorem c102 : cFn Tryz.prog (mtOf (Tryz.f102.body.getD .skip)) Tryz.f102 = some ac102 := by kernel_rfl
theorem a102 {E : Env} (hE : E.P = Tryz.prog) : EntA E 102 ac102 := ent_a hE Tryz.func102 c102
theorem p102 {E : Env} (hE : E.P = Tryz.prog) : EntP E 102 ac102 := fun k hp => ent_p (@a102 E hE) k hp
theorem c103 : cFn Tryz.prog (mtOf (Tryz.f103.body.getD .skip)) Tryz.f103 = some ac103 := by kernel_rfl
theorem a103 {E : Env} (hE : E.P = Tryz.prog) : EntA E 103 ac103 := ent_a hE Tryz.func103 c103
theorem p103 {E : Env} (hE : E.P = Tryz.prog) : EntP E 103 ac103 := fun k hp => ent_p (@a103 E hE) k hp
theorem c106 : cFn Tryz.prog (mtOf (Tryz.f106.body.getD .skip)) Tryz.f106 = some ac106 := by kernel_rfl
theorem a106 {E : Env} (hE : E.P = Tryz.prog) : EntA E 106 ac106 := ent_a hE Tryz.func106 c106
theorem p106 {E : Env} (hE : E.P = Tryz.prog) : EntP E 106 ac106 := fun k hp => ent_p (@a106 E hE) k hp
theorem c107 : cFn Tryz.prog (mtOf (Tryz.f107.body.getD .skip)) Tryz.f107 = some ac107 := by kernel_rfl
theorem a107 {E : Env} (hE : E.P = Tryz.prog) : EntA E 107 ac107 := ent_a hE Tryz.func107 c107
theorem p107 {E : Env} (hE : E.P = Tryz.prog) : EntP E 107 ac107 := fun k hp => ent_p (@a107 E hE) k hp
theorem c108 : cFn Tryz.prog (mtOf (Tryz.f108.body.getD .skip)) Tryz.f108 = some ac108 := by kernel_rfl
theorem a108 {E : Env} (hE : E.P = Tryz.prog) : EntA E 108 ac108 := ent_a hE Tryz.func108 c108
theorem p108 {E : Env} (hE : E.P = Tryz.prog) : EntP E 108 ac108 := fun k hp => ent_p (@a108 E hE) k hp
theorem c109 : cFn Tryz.prog (mtOf (Tryz.f109.body.getD .skip)) Tryz.f109 = some ac109 := by kernel_rfl
theorem a109 {E : Env} (hE : E.P = Tryz.prog) : EntA E 109 ac109 := ent_a hE Tryz.func109 c109
theorem p109 {E : Env} (hE : E.P = Tryz.prog) : EntP E 109 ac109 := fun k hp => ent_p (@a109 E hE) k hp
theorem c110 : cFn Tryz.prog (mtOf (Tryz.f110.body.getD .skip)) Tryz.f110 = some ac110 := by kernel_rfl
theorem a110 {E : Env} (hE : E.P = Tryz.prog) : EntA E 110 ac110 := ent_a hE Tryz.func110 c110
theorem p110 {E : Env} (hE : E.P = Tryz.prog) : EntP E 110 ac110 := fun k hp => ent_p (@a110 E hE) k hp
theorem c111 : cFn Tryz.prog (mtOf (Tryz.f111.body.getD .skip)) Tryz.f111 = some ac111 := by kernel_rfl
theorem a111 {E : Env} (hE : E.P = Tryz.prog) : EntA E 111 ac111 := ent_a hE Tryz.func111 c111
theorem p111 {E : Env} (hE : E.P = Tryz.prog) : EntP E 111 ac111 := fun k hp => ent_p (@a111 E hE) k hp
theorem c112 : cFn Tryz.prog (mtOf (Tryz.f112.body.getD .skip)) Tryz.f112 = some ac112 := by kernel_rfl
theorem a112 {E : Env} (hE : E.P = Tryz.prog) : EntA E 112 ac112 := ent_a hE Tryz.func112 c112
theorem p112 {E : Env} (hE : E.P = Tryz.prog) : EntP E 112 ac112 := fun k hp => ent_p (@a112 E hE) k hp
theorem c113 : cFn Tryz.prog (mtOf (Tryz.f113.body.getD .skip)) Tryz.f113 = some ac113 := by kernel_rfl
theorem a113 {E : Env} (hE : E.P = Tryz.prog) : EntA E 113 ac113 := ent_a hE Tryz.func113 c113
theorem p113 {E : Env} (hE : E.P = Tryz.prog) : EntP E 113 ac113 := fun k hp => ent_p (@a113 E hE) k hp
theorem c114 : cFn Tryz.prog (mtOf (Tryz.f114.body.getD .skip)) Tryz.f114 = some ac114 := by kernel_rfl
theorem a114 {E : Env} (hE : E.P = Tryz.prog) : EntA E 114 ac114 := ent_a hE Tryz.func114 c114
theorem p114 {E : Env} (hE : E.P = Tryz.prog) : EntP E 114 ac114 := fun k hp => ent_p (@a114 E hE) k hp
theorem c117 : cFn Tryz.prog (mtOf (Tryz.f117.body.getD .skip)) Tryz.f117 = some ac117 := by kernel_rfl
theorem a117 {E : Env} (hE : E.P = Tryz.prog) : EntA E 117 ac117 := ent_a hE Tryz.func117 c117
theorem p117 {E : Env} (hE : E.P = Tryz.prog) : EntP E 117 ac117 := fun k hp => ent_p (@a117 E hE) k hp
theorem c144 : cFn Tryz.prog (mtOf (Tryz.f144.body.getD .skip)) Tryz.f144 = some ac144 := by kernel_rfl
theorem a144 {E : Env} (hE : E.P = Tryz.prog) : EntA E 144 ac144 := ent_a hE Tryz.func144 c144
theorem p144 {E : Env} (hE : E.P = Tryz.prog) : EntP E 144 ac144 := fun k hp => ent_p (@a144 E hE) k hp
theorem c149 : cFn Tryz.prog (mtOf (Tryz.f149.body.getD .skip)) Tryz.f149 = some ac149 := by kernel_rfl
theorem a149 {E : Env} (hE : E.P = Tryz.prog) : EntA E 149 ac149 := ent_a hE Tryz.func149 c149
theorem p149 {E : Env} (hE : E.P = Tryz.prog) : EntP E 149 ac149 := fun k hp => ent_p (@a149 E hE) k hp
theorem c150 : cFn Tryz.prog (mtOf (Tryz.f150.body.getD .skip)) Tryz.f150 = some ac150 := by kernel_rfl
theorem a150 {E : Env} (hE : E.P = Tryz.prog) : EntA E 150 ac150 := ent_a hE Tryz.func150 c150
theorem p150 {E : Env} (hE : E.P = Tryz.prog) : EntP E 150 ac150 := fun k hp => ent_p (@a150 E hE) k hp
theorem c151 : cFn Tryz.prog (mtOf (Tryz.f151.body.getD .skip)) Tryz.f151 = some ac151 := by kernel_rfl
theorem a151 {E : Env} (hE : E.P = Tryz.prog) : EntA E 151 ac151 := ent_a hE Tryz.func151 c151
theorem p151 {E : Env} (hE : E.P = Tryz.prog) : EntP E 151 ac151 := fun k hp => ent_p (@a151 E hE) k hp
theorem c152 : cFn Tryz.prog (mtOf (Tryz.f152.body.getD .skip)) Tryz.f152 = some ac152 := by kernel_rfl
theorem a152 {E : Env} (hE : E.P = Tryz.prog) : EntA E 152 ac152 := ent_a hE Tryz.func152 c152
theorem p152 {E : Env} (hE : E.P = Tryz.prog) : EntP E 152 ac152 := fun k hp => ent_p (@a152 E hE) k hp
theorem c153 : cFn Tryz.prog (mtOf (Tryz.f153.body.getD .skip)) Tryz.f153 = some ac153 := by kernel_rfl
theorem a153 {E : Env} (hE : E.P = Tryz.prog) : EntA E 153 ac153 := ent_a hE Tryz.func153 c153
theorem p153 {E : Env} (hE : E.P = Tryz.prog) : EntP E 153 ac153 := fun k hp => ent_p (@a153 E hE) k hp
theorem c154 : cFn Tryz.prog (mtOf (Tryz.f154.body.getD .skip)) Tryz.f154 = some ac154 := by kernel_rfl
theorem a154 {E : Env} (hE : E.P = Tryz.prog) : EntA E 154 ac154 := ent_a hE Tryz.func154 c154
theorem p154 {E : Env} (hE : E.P = Tryz.prog) : EntP E 154 ac154 := fun k hp => ent_p (@a154 E hE) k hp
theorem c155 : cFn Tryz.prog (mtOf (Tryz.f155.body.getD .skip)) Tryz.f155 = some ac155 := by kernel_rfl
theorem a155 {E : Env} (hE : E.P = Tryz.prog) : EntA E 155 ac155 := ent_a hE Tryz.func155 c155
theorem b155 {E : Env} (hE : E.P = Tryz.prog) : EntB E 155 ac155 := fun k => ent_b (@a155 E hE) k
theorem c156 : cFn Tryz.prog (mtOf (Tryz.f156.body.getD .skip)) Tryz.f156 = some ac156 := by kernel_rfl
theorem a156 {E : Env} (hE : E.P = Tryz.prog) : EntA E 156 ac156 := ent_a hE Tryz.func156 c156
theorem p156 {E : Env} (hE : E.P = Tryz.prog) : EntP E 156 ac156 := fun k hp => ent_p (@a156 E hE) k hp
theorem c159 : cFn Tryz.prog (mtOf (Tryz.f159.body.getD .skip)) Tryz.f159 = some ac159 := by kernel_rfl
theorem a159 {E : Env} (hE : E.P = Tryz.prog) : EntA E 159 ac159 := ent_a hE Tryz.func159 c159
theorem p159 {E : Env} (hE : E.P = Tryz.prog) : EntP E 159 ac159 := fun k hp => ent_p (@a159 E hE) k hp
theorem c160 : cFn Tryz.prog (mtOf (Tryz.f160.body.getD .skip)) Tryz.f160 = some ac160 := by kernel_rfl
theorem a160 {E : Env} (hE : E.P = Tryz.prog) : EntA E 160 ac160 := ent_a hE Tryz.func160 c160
theorem c161 : cFn Tryz.prog (mtOf (Tryz.f161.body.getD .skip)) Tryz.f161 = some ac161 := by kernel_rfl
theorem a161 {E : Env} (hE : E.P = Tryz.prog) : EntA E 161 ac161 := ent_a hE Tryz.func161 c161
theorem c162 : cFn Tryz.prog (mtOf (Tryz.f162.body.getD .skip)) Tryz.f162 = some ac162 := by kernel_rfl
theorem a162 {E : Env} (hE : E.P = Tryz.prog) : EntA E 162 ac162 := ent_a hE Tryz.func162 c162
theorem c163 : cFn Tryz.prog (mtOf (Tryz.f163.body.getD .skip)) Tryz.f163 = some ac163 := by kernel_rfl
theorem a163 {E : Env} (hE : E.P = Tryz.prog) : EntA E 163 ac163 := ent_a hE Tryz.func163 c163
theorem b163 {E : Env} (hE : E.P = Tryz.prog) : EntB E 163 ac163 := fun k => ent_b (@a163 E hE) k
theorem c164 : cFn Tryz.prog (mtOf (Tryz.f164.body.getD .skip)) Tryz.f164 = some ac164 := by kernel_rfl
theorem a164 {E : Env} (hE : E.P = Tryz.prog) : EntA E 164 ac164 := ent_a hE Tryz.func164 c164
theorem c165 : cFn Tryz.prog (mtOf (Tryz.f165.body.getD .skip)) Tryz.f165 = some ac165 := by kernel_rfl
theorem a165 {E : Env} (hE : E.P = Tryz.prog) : EntA E 165 ac165 := ent_a hE Tryz.func165 c165
theorem p165 {E : Env} (hE : E.P = Tryz.prog) : EntP E 165 ac165 := fun k hp => ent_p (@a165 E hE) k hp
theorem c166 : cFn Tryz.prog (mtOf (Tryz.f166.body.getD .skip)) Tryz.f166 = some ac166 := by kernel_rfl
theorem a166 {E : Env} (hE : E.P = Tryz.prog) : EntA E 166 ac166 := ent_a hE Tryz.func166 c166
theorem p166 {E : Env} (hE : E.P = Tryz.prog) : EntP E 166 ac166 := fun k hp => ent_p (@a166 E hE) k hp
theorem c167 : cFn Tryz.prog (mtOf (Tryz.f167.body.getD .skip)) Tryz.f167 = some ac167 := by kernel_rfl
theorem a167 {E : Env} (hE : E.P = Tryz.prog) : EntA E 167 ac167 := ent_a hE Tryz.func167 c167
theorem p167 {E : Env} (hE : E.P = Tryz.prog) : EntP E 167 ac167 := fun k hp => ent_p (@a167 E hE) k hp
theorem c168 : cFn Tryz.prog (mtOf (Tryz.f168.body.getD .skip)) Tryz.f168 = some ac168 := by kernel_rfl
theorem a168 {E : Env} (hE : E.P = Tryz.prog) : EntA E 168 ac168 := ent_a hE Tryz.func168 c168
theorem p168 {E : Env} (hE : E.P = Tryz.prog) : EntP E 168 ac168 := fun k hp => ent_p (@a168 E hE) k hp
theorem c176 : cFn Tryz.prog (mtOf (Tryz.f176.body.getD .skip)) Tryz.f176 = some ac176 := by kernel_rfl
theorem a176 {E : Env} (hE : E.P = Tryz.prog) : EntA E 176 ac176 := ent_a hE Tryz.func176 c176
theorem p176 {E : Env} (hE : E.P = Tryz.prog) : EntP E 176 ac176 := fun k hp => ent_p (@a176 E hE) k hp
theorem c178 : cFn Tryz.prog (mtOf (Tryz.f178.body.getD .skip)) Tryz.f178 = some ac178 := by kernel_rfl
theorem a178 {E : Env} (hE : E.P = Tryz.prog) : EntA E 178 ac178 := ent_a hE Tryz.func178 c178
theorem p178 {E : Env} (hE : E.P = Tryz.prog) : EntP E 178 ac178 := fun k hp => ent_p (@a178 E hE) k hp
theorem c179 : cFn Tryz.prog (mtOf (Tryz.f179.body.getD .skip)) Tryz.f179 = some ac179 := by kernel_rfl
theorem a179 {E : Env} (hE : E.P = Tryz.prog) : EntA E 179 ac179 := ent_a hE Tryz.func179 c179
theorem p179 {E : Env} (hE : E.P = Tryz.prog) : EntP E 179 ac179 := fun k hp => ent_p (@a179 E hE) k hp
theorem c185 : cFn Tryz.prog (mtOf (Tryz.f185.body.getD .skip)) Tryz.f185 = some ac185 := by kernel_rfl
theorem a185 {E : Env} (hE : E.P = Tryz.prog) : EntA E 185 ac185 := ent_a hE Tryz.func185 c185
theorem p185 {E : Env} (hE : E.P = Tryz.prog) : EntP E 185 ac185 := fun k hp => ent_p (@a185 E hE) k hp
theorem c200 : cFn Tryz.prog (mtOf (Tryz.f200.body.getD .skip)) Tryz.f200 = some ac200 := by kernel_rfl
theorem a200 {E : Env} (hE : E.P = Tryz.prog) : EntA E 200 ac200 := ent_a hE Tryz.func200 c200
theorem p200 {E : Env} (hE : E.P = Tryz.prog) : EntP E 200 ac200 := fun k hp => ent_p (@a200 E hE) k hp
theorem c202 : cFn Tryz.prog (mtOf (Tryz.f202.body.getD .skip)) Tryz.f202 = some ac202 := by kernel_rfl
theorem a202 {E : Env} (hE : E.P = Tryz.prog) : EntA E 202 ac202 := ent_a hE Tryz.func202 c202
theorem p202 {E : Env} (hE : E.P = Tryz.prog) : EntP E 202 ac202 := fun k hp => ent_p (@a202 E hE) k hp
theorem c203 : cFn Tryz.prog (mtOf (Tryz.f203.body.getD .skip)) Tryz.f203 = some ac203 := by kernel_rfl
theorem a203 {E : Env} (hE : E.P = Tryz.prog) : EntA E 203 ac203 := ent_a hE Tryz.func203 c203
theorem p203 {E : Env} (hE : E.P = Tryz.prog) : EntP E 203 ac203 := fun k hp => ent_p (@a203 E hE) k hp
theorem c204 : cFn Tryz.prog (mtOf (Tryz.f204.body.getD .skip)) Tryz.f204 = some ac204 := by kernel_rfl
theorem a204 {E : Env} (hE : E.P = Tryz.prog) : EntA E 204 ac204 := ent_a hE Tryz.func204 c204
theorem p204 {E : Env} (hE : E.P = Tryz.prog) : EntP E 204 ac204 := fun k hp => ent_p (@a204 E hE) k hp
theorem c206 : cFn Tryz.prog (mtOf (Tryz.f206.body.getD .skip)) Tryz.f206 = some ac206 := by kernel_rfl
theorem a206 {E : Env} (hE : E.P = Tryz.prog) : EntA E 206 ac206 := ent_a hE Tryz.func206 c206
theorem p206 {E : Env} (hE : E.P = Tryz.prog) : EntP E 206 ac206 := fun k hp => ent_p (@a206 E hE) k hp
theorem c214 : cFn Tryz.prog (mtOf (Tryz.f214.body.getD .skip)) Tryz.f214 = some ac214 := by kernel_rfl
theorem a214 {E : Env} (hE : E.P = Tryz.prog) : EntA E 214 ac214 := ent_a hE Tryz.func214 c214
theorem p214 {E : Env} (hE : E.P = Tryz.prog) : EntP E 214 ac214 := fun k hp => ent_p (@a214 E hE) k hp
theorem c215 : cFn Tryz.prog (mtOf (Tryz.f215.body.getD .skip)) Tryz.f215 = some ac215 := by kernel_rfl
theorem a215 {E : Env} (hE : E.P = Tryz.prog) : EntA E 215 ac215 := ent_a hE Tryz.func215 c215
theorem p215 {E : Env} (hE : E.P = Tryz.prog) : EntP E 215 ac215 := fun k hp => ent_p (@a215 E hE) k hp
theorem c216 : cFn Tryz.prog (mtOf (Tryz.f216.body.getD .skip)) Tryz.f216 = some ac216 := by kernel_rfl
theorem a216 {E : Env} (hE : E.P = Tryz.prog) : EntA E 216 ac216 := ent_a hE Tryz.func216 c216
theorem p216 {E : Env} (hE : E.P = Tryz.prog) : EntP E 216 ac216 := fun k hp => ent_p (@a216 E hE) k hp
theorem c217 : cFn Tryz.prog (mtOf (Tryz.f217.body.getD .skip)) Tryz.f217 = some ac217 := by kernel_rfl
theorem a217 {E : Env} (hE : E.P = Tryz.prog) : EntA E 217 ac217 := ent_a hE Tryz.func217 c217
theorem p217 {E : Env} (hE : E.P = Tryz.prog) : EntP E 217 ac217 := fun k hp => ent_p (@a217 E hE) k hp
theorem c225 : cFn Tryz.prog (mtOf (Tryz.f225.body.getD .skip)) Tryz.f225 = some ac225 := by kernel_rfl
theorem a225 {E : Env} (hE : E.P = Tryz.prog) : EntA E 225 ac225 := ent_a hE Tryz.func225 c225
theorem p225 {E : Env} (hE : E.P = Tryz.prog) : EntP E 225 ac225 := fun k hp => ent_p (@a225 E hE) k hp
theorem c226 : cFn Tryz.prog (mtOf (Tryz.f226.body.getD .skip)) Tryz.f226 = some ac226 := by kernel_rfl
theorem a226 {E : Env} (hE : E.P = Tryz.prog) : EntA E 226 ac226 := ent_a hE Tryz.func226 c226
theorem p226 {E : Env} (hE : E.P = Tryz.prog) : EntP E 226 ac226 := fun k hp => ent_p (@a226 E hE) k hp
theorem c231 : cFn Tryz.prog (mtOf (Tryz.f231.body.getD .skip)) Tryz.f231 = some ac231 := by kernel_rfl
theorem a231 {E : Env} (hE : E.P = Tryz.prog) : EntA E 231 ac231 := ent_a hE Tryz.func231 c231
theorem p231 {E : Env} (hE : E.P = Tryz.prog) : EntP E 231 ac231 := fun k hp => ent_p (@a231 E hE) k hp
theorem c238 : cFn Tryz.prog (mtOf (Tryz.f238.body.getD .skip)) Tryz.f238 = some ac238 := by kernel_rfl
theorem a238 {E : Env} (hE : E.P = Tryz.prog) : EntA E 238 ac238 := ent_a hE Tryz.func238 c238
theorem p238 {E : Env} (hE : E.P = Tryz.prog) : EntP E 238 ac238 := fun k hp => ent_p (@a238 E hE) k hp
theorem c239 : cFn Tryz.prog (mtOf (Tryz.f239.body.getD .skip)) Tryz.f239 = some ac239 := by kernel_rfl
theorem a239 {E : Env} (hE : E.P = Tryz.prog) : EntA E 239 ac239 := ent_a hE Tryz.func239 c239
theorem b239 {E : Env} (hE : E.P = Tryz.prog) : EntB E 239 ac239 := fun k => ent_b (@a239 E hE) k
theorem c240 : cFn Tryz.prog (mtOf (Tryz.f240.body.getD .skip)) Tryz.f240 = some ac240 := by kernel_rfl
theorem a240 {E : Env} (hE : E.P = Tryz.prog) : EntA E 240 ac240 := ent_a hE Tryz.func240 c240
theorem p240 {E : Env} (hE : E.P = Tryz.prog) : EntP E 240 ac240 := fun k hp => ent_p (@a240 E hE) k hp
theorem c248 : cFn Tryz.prog (mtOf (Tryz.f248.body.getD .skip)) Tryz.f248 = some ac248 := by kernel_rfl
theorem a248 {E : Env} (hE : E.P = Tryz.prog) : EntA E 248 ac248 := ent_a hE Tryz.func248 c248
theorem p248 {E : Env} (hE : E.P = Tryz.prog) : EntP E 248 ac248 := fun k hp => ent_p (@a248 E hE) k hp
theorem c259 : cFn Tryz.prog (mtOf (Tryz.f259.body.getD .skip)) Tryz.f259 = some ac259 := by kernel_rfl
theorem a259 {E : Env} (hE : E.P = Tryz.prog) : EntA E 259 ac259 := ent_a hE Tryz.func259 c259
theorem p259 {E : Env} (hE : E.P = Tryz.prog) : EntP E 259 ac259 := fun k hp => ent_p (@a259 E hE) k hp
theorem c260 : cFn Tryz.prog (mtOf (Tryz.f260.body.getD .skip)) Tryz.f260 = some ac260 := by kernel_rfl
theorem a260 {E : Env} (hE : E.P = Tryz.prog) : EntA E 260 ac260 := ent_a hE Tryz.func260 c260
theorem p260 {E : Env} (hE : E.P = Tryz.prog) : EntP E 260 ac260 := fun k hp => ent_p (@a260 E hE) k hp
theorem c261 : cFn Tryz.prog (mtOf (Tryz.f261.body.getD .skip)) Tryz.f261 = some ac261 := by kernel_rfl
theorem a261 {E : Env} (hE : E.P = Tryz.prog) : EntA E 261 ac261 := ent_a hE Tryz.func261 c261
theorem p261 {E : Env} (hE : E.P = Tryz.prog) : EntP E 261 ac261 := fun k hp => ent_p (@a261 E hE) k hp
theorem c273 : cFn Tryz.prog (mtOf (Tryz.f273.body.getD .skip)) Tryz.f273 = some ac273 := by kernel_rfl
theorem a273 {E : Env} (hE : E.P = Tryz.prog) : EntA E 273 ac273 := ent_a hE Tryz.func273 c273
theorem p273 {E : Env} (hE : E.P = Tryz.prog) : EntP E 273 ac273 := fun k hp => ent_p (@a273 E hE) k hp
theorem c276 : cFn Tryz.prog (mtOf (Tryz.f276.body.getD .skip)) Tryz.f276 = some ac276 := by kernel_rfl
theorem a276 {E : Env} (hE : E.P = Tryz.prog) : EntA E 276 ac276 := ent_a hE Tryz.func276 c276
theorem p276 {E : Env} (hE : E.P = Tryz.prog) : EntP E 276 ac276 := fun k hp => ent_p (@a276 E hE) k hp
theorem W1 {P : Prop} (h : P := by first | omega | decide | (unfold inI64; omega) | (simp only [List.length_append, List.length_cons, List.length_nil] <;> omega) | (refine ⟨?_, ?_⟩ <;> omega) | (refine ⟨?_, ?_, ?_, ?_, ?_, ?_⟩ <;> first | rfl | trivial | decide | omega | (simp [bytesAV_length] <;> omega)) | (simp <;> omega) | (unfold inI64; simp only [List.length_append, List.length_cons, List.length_nil] <;> omega)) : P := h
end Ink.D

namespace Ink.D
open Go Go.Proofs Go.RowKit
set_option maxRecDepth 100000

theorem tB : Tryz.prog.underlying 87 = some (.pointer 90) := by kernel_rfl
theorem tU : Tryz.prog.underlying 194 = some .unsafePointer := by kernel_rfl
theorem iB : ∃ j, Tryz.prog.info? 90 = some j ∧ j.size = 2 := ⟨(Tryz.prog.info? 90).get (by kernel_rfl), by kernel_rfl, by kernel_rfl⟩
theorem lB : liesAt Tryz.prog Tryz.prog.depth 90 (2 / Tryz.prog.cellsOf 90) 0 90 1 = true := by kernel_rfl

theorem t41 : Tryz.prog.underlying 88 = some (.slice 5) := by kernel_rfl
theorem t119 : Tryz.prog.underlying 156 = some (.pointer 5) := by kernel_rfl
theorem t3 : Tryz.prog.underlying 3 = some (.int .i64) := by kernel_rfl
theorem t9 : Tryz.prog.underlying 9 = some .string := by kernel_rfl
theorem t5 : Tryz.prog.underlying 5 = some (.int .u8) := by kernel_rfl
theorem cells5 : Tryz.prog.cellsOf 5 = 1 := by kernel_rfl

theorem liesAt_off {P : Program} {e : TypeId} (hc : P.cellsOf e = 1) (count off n : Nat) (hn : off + n ≤ count) : liesAt P P.depth e count off e n = true := by
  have hd : P.depth = (2 * (P.types.size + Made.depth) + 1) + 1 := rfl
  rw [hd]
  simp only [liesAt, Bool.or_eq_true]
  left
  rw [hd]
  simp [rowAt, hc, hn, sameLayout, Nat.mod_one]

theorem unsafeString_off {P : Program} (w : World) (pt it ty e : TypeId) (hp : P.underlying pt = some (.pointer e)) (hc : P.cellsOf e = 1) (g base cells : Nat) (hsh : w.shape? g = some (e, cells)) (l : List UInt8) (h0 : l ≠ []) (hn : base + l.length ≤ cells) (h63 : l.length ≤ 9223372036854775807)
    (hcell : ∀ (j : Nat) (x : UInt8), l[j]? = some x → w.cell? ((⟨g, base, none⟩ : Addr).add j) = some (.int .u8 x.toNat)) :
    (Builtin.unsafeString_ #[pt, it] ty #[.pointer (some ⟨g, base, none⟩), .int .i64 l.length]).run P w = .ok (.string ⟨l.toArray⟩) (w.freeze ⟨g, base, none⟩ l.length) := by
  have hl : l.length ≠ 0 := by simpa using h0
  have hlb := Lib.run_loadBytes (P := P) w l ⟨g, base, none⟩ .empty hcell
  have hlies := liesAt_off (P := P) hc (cells / P.cellsOf e) base l.length (by rw [hc]; simpa using hn)
  have h63' : ¬ (9223372036854775807 : Int) < (l.length : Int) := by omega
  have hdef : Builtin.unsafeString_ #[pt, it] ty #[.pointer (some ⟨g, base, none⟩), .int .i64 l.length] =
      (do
        let n ← asInt (.int .i64 l.length)
        if n < 0 then runtimePanic (.error "unsafe.String: len out of range")
        if n > IntKind.i64.max then unsupported (.unsafePointer "String: a length above the largest int")
        if n = 0 then pure (.string .empty)
        else if ← variablesAt ⟨g, base, none⟩ (← elemOf pt) n.toNat then do
          let s ← loadBytes ⟨g, base, none⟩ .empty n.toNat
          freeze ⟨g, base, none⟩ n.toNat
          pure (.string s)
        else unsupported (.unsafePointer "String: not so many bytes at ptr")) := rfl
  rw [hdef]
  have hmax : IntKind.i64.max = 9223372036854775807 := rfl
  have hneg : ¬ (l.length : Int) < 0 := by omega
  simp [asInt, asIntOf, hmax, h63', hneg, hl, variablesAt, hsh, elemOf, run_underlying hp, hlies, hlb]

set_option maxHeartbeats 1000000 in
theorem cc_used (b : Nat) (w : World) (h0 : w.cell? ⟨b, 0, none⟩ = some (.pointer (some ⟨b, 0, none⟩))) :
    Calls Tryz.prog 104 #[.pointer (some ⟨b, 0, none⟩)] w fun e w' => e = .returned (.tuple #[]) ∧ w' = w := by
  obtain ⟨j, hj, _⟩ := iB
  have u84 := run_underlying tB
  have u146 := run_underlying tU
  go_enter Tryz.func104, Tryz.ntmps104
  go_wp2
  rw [Lib.run_neq_ptr_same w _ tB hj]
  go_wp2
  go_end0
  exact ⟨rfl, rfl⟩

set_option maxHeartbeats 1000000 in
theorem cc_fresh (b : Nat) (w : World) (h0 : w.cell? ⟨b, 0, none⟩ = some (.pointer none)) (hsh : w.shape? b = some (90, 2)) (hfz : w.frozen? ⟨b, 0, none⟩ = false) :
    Calls Tryz.prog 104 #[.pointer (some ⟨b, 0, none⟩)] w fun e w' => e = .returned (.tuple #[]) ∧ w' = w.setCell ⟨b, 0, none⟩ (.pointer (some ⟨b, 0, none⟩)) := by
  obtain ⟨j, hj, hjs⟩ := iB
  have u84 := run_underlying tB
  have u146 := run_underlying tU
  go_enter Tryz.func104, Tryz.ntmps104
  go_wp2
  rw [Lib.run_to_unsafe w ⟨b, 0, none⟩ tB tU hj (by rw [hjs]; decide) hsh (Nat.zero_lt_succ 1)]
  simp only [Result.andThen]
  rw [Oper.upon_value]
  go_wp2
  rw [run_callFunc_extern Tryz.func157 (by kernel_rfl) (by kernel_rfl) (by kernel_rfl) (e := Extern.AbiNoEscape.same) (by kernel_rfl)]
  rw [Lib.run_noEscape]
  simp only [Result.andThen]
  rw [Oper.upon_value]
  go_wp2
  rw [Lib.run_from_unsafe w ⟨b, 0, none⟩ tU tB hj hsh lB]
  simp only [Result.andThen]
  rw [Oper.upon_value]
  go_wp2
  go_end0
  exact ⟨rfl, rfl⟩

set_option maxHeartbeats 2000000 in
theorem str_nil (b : Nat) (w : World) (hbk : w.cell? ⟨b, 1, none⟩ = some (.slice none 0 0)) :
    Calls Tryz.prog 53 #[.pointer (some ⟨b, 0, none⟩)] w fun e w' => e = .returned (.string ⟨#[]⟩) ∧ w' = w.drew := by
  have hUS0 := fun w q => Lib.run_unsafeString_none (P := Tryz.prog) (w := w) 156 3 9 q
  have c1 : w.drew.cell? ⟨b, 1, none⟩ = some (.slice none 0 0) := hbk
  have hSD : (Builtin.unsafeSliceData_ #[88] 156 #[.slice none 0 0]).run Tryz.prog w.drew = .ok (.pointer none) w.drew := rfl
  have u84 := run_underlying tB
  have u41 := run_underlying t41
  have u119 := run_underlying t119
  have u3 := run_underlying t3
  have u9 := run_underlying t9
  have u5 := run_underlying t5
  go_enter Tryz.func53, Tryz.ntmps53
  go_wp2
  go_region
  all_goals (go_wp2; go_ret; exact ⟨rfl, rfl⟩)

set_option maxHeartbeats 2000000 in
theorem str_room (b : Nat) (w : World) (g base cap : Nat) (hc0 : cap ≠ 0) (hbk : w.cell? ⟨b, 1, none⟩ = some (.slice (some ⟨g, base, none⟩) 0 cap)) :
    Calls Tryz.prog 53 #[.pointer (some ⟨b, 0, none⟩)] w fun e w' => e = .returned (.string ⟨#[]⟩) ∧ w' = w.drew := by
  have hUS0 := fun w q => Lib.run_unsafeString_none (P := Tryz.prog) (w := w) 156 3 9 q
  have c1 : w.drew.cell? ⟨b, 1, none⟩ = some (.slice (some ⟨g, base, none⟩) 0 cap) := hbk
  have hSD : (Builtin.unsafeSliceData_ #[88] 156 #[.slice (some ⟨g, base, none⟩) 0 cap]).run Tryz.prog w.drew = .ok (.pointer (some ⟨g, base, none⟩)) w.drew :=
    Lib.run_unsafeSliceData_row _ _ _ _ _ _ hc0
  clear hc0
  have u84 := run_underlying tB
  have u41 := run_underlying t41
  have u119 := run_underlying t119
  have u3 := run_underlying t3
  have u9 := run_underlying t9
  have u5 := run_underlying t5
  go_enter Tryz.func53, Tryz.ntmps53
  go_wp2
  go_region
  all_goals (go_wp2; go_ret; exact ⟨rfl, rfl⟩)

set_option maxHeartbeats 2000000 in
theorem str_full (b : Nat) (w : World) (g base cap : Nat) (l : List UInt8) (h0 : l ≠ []) (hlc : l.length ≤ cap) (n : Nat) (hsh : w.shape? g = some (5, n)) (hcn : base + l.length ≤ n) (h63 : l.length ≤ 9223372036854775807) (hcell : ∀ (j : Nat) (x : UInt8), l[j]? = some x → w.cell? ((⟨g, base, none⟩ : Addr).add j) = some (.int .u8 x.toNat)) (hbk : w.cell? ⟨b, 1, none⟩ = some (.slice (some ⟨g, base, none⟩) l.length cap)) :
    Calls Tryz.prog 53 #[.pointer (some ⟨b, 0, none⟩)] w fun e w' => e = .returned (.string ⟨l.toArray⟩) ∧ w' = (w.drew.freeze ⟨g, base, none⟩ l.length) := by
  have hUS0 := fun w q => Lib.run_unsafeString_none (P := Tryz.prog) (w := w) 156 3 9 q
  have c1 : w.drew.cell? ⟨b, 1, none⟩ = some (.slice (some ⟨g, base, none⟩) l.length cap) := hbk
  have hl0 : l.length ≠ 0 := by simpa using h0
  have hSD : (Builtin.unsafeSliceData_ #[88] 156 #[.slice (some ⟨g, base, none⟩) l.length cap]).run Tryz.prog w.drew = .ok (.pointer (some ⟨g, base, none⟩)) w.drew :=
    Lib.run_unsafeSliceData_row _ _ _ _ _ _ (by omega)
  have hUS : (Builtin.unsafeString_ #[156, 3] 9 #[.pointer (some ⟨g, base, none⟩), .int .i64 l.length]).run Tryz.prog w.drew = .ok (.string ⟨l.toArray⟩) (w.drew.freeze ⟨g, base, none⟩ l.length) := by
    exact unsafeString_off w.drew 156 3 9 5 t119 cells5 g base n hsh l h0 hcn h63 hcell
  clear hcell hsh hcn h63 hlc hl0 h0
  have u84 := run_underlying tB
  have u41 := run_underlying t41
  have u119 := run_underlying t119
  have u3 := run_underlying t3
  have u9 := run_underlying t9
  have u5 := run_underlying t5
  go_enter Tryz.func53, Tryz.ntmps53
  go_wp2
  go_region
  all_goals (go_wp2; go_ret; exact ⟨rfl, rfl⟩)
end Ink.D

namespace Ink.D
open Go Go.Proofs Go.RowKit
set_option maxRecDepth 100000
theorem z5 : ∀ w, (Go.sizeOf 5).run Tryz.prog w = .ok 1 w := fun w => by kernel_rfl
theorem ap_empty (a : Option Addr) (cap : Nat) (w : World) : (Builtin.append_ #[88, 9] 88 #[.slice a 0 cap, .string ⟨#[]⟩]).run Tryz.prog w = .ok (.slice a 0 cap) w := by
  have u41 := run_underlying (P := Tryz.prog) t41
  have u9 := run_underlying (P := Tryz.prog) t9
  have e : ({ data := #[] } : ByteArray).size = 0 := rfl
  simp [Builtin.append_, u41, u9, z5, Builtin.lenOf, Builtin.firstCells, e]
  cases a <;> simp [storeCells]

set_option maxHeartbeats 400000 in
theorem ws_empty (b : Nat) (w w1 : World) (v : Value) (hcc : Calls Tryz.prog 104 #[.pointer (some ⟨b, 0, none⟩)] w fun e w' => e = .returned (.tuple #[]) ∧ w' = w1)
    (h1 : w1.cell? ⟨b, 1, none⟩ = some v) (hv : ∃ a cap, v = .slice a 0 cap) (hfz : w1.frozen? ⟨b, 1, none⟩ = false) :
    Calls Tryz.prog 56 #[.pointer (some ⟨b, 0, none⟩), .string ⟨#[]⟩] w fun e w' => e = .returned (.tuple #[.int .i64 0, .nilIface]) ∧ w' = w1.setCell ⟨b, 1, none⟩ v := by
  obtain ⟨a, cap, rfl⟩ := hv
  have hA := ap_empty a cap w1
  have u84 := run_underlying tB
  have u41 := run_underlying t41
  have u119 := run_underlying t119
  have u3 := run_underlying t3
  have u9 := run_underlying t9
  have u5 := run_underlying t5
  go_enter Tryz.func56, Tryz.ntmps56
  go_wp2_with (go_at_call 104; refine hcc.mono ?_; rintro e w' ⟨rfl, rfl⟩)
  all_goals (simp only [Sem.run_pure, Result.andThen]; rw [Oper.upon_value]; go_wp2; refine bodyPost_ret (results_tmp2 rfl _ _ _) rfl ?_; exact ⟨rfl, rfl⟩)
end Ink.D

namespace Ink.D
open Go Go.Proofs
set_option maxRecDepth 100000
variable {E : Env} (hE : E.P = Tryz.prog)

theorem enter_of {P : Program} {f : FuncId} {fn : Func} {c : Code} (hf : P.funcs[f]? = some fn) (hb : fn.body = some c) (hn : (fn.name == "runtime.NumGoroutine") = false) (vs : Array Value) (w : World) :
    (callFunc f vs).run P w = .ok (.enter f vs) w := by
  have hn' : ¬ fn.name = "runtime.NumGoroutine" := by simpa using hn
  simp [callFunc, hf, hb, hn']

include hE
theorem bldP : BldP E.P 90 5 104 53 := by
  rw [hE]
  exact {
    ecc := enter_of Tryz.func104 rfl (by decide)
    estr := enter_of Tryz.func53 rfl (by decide)
    used := cc_used
    fresh := cc_fresh
    nil := str_nil
    room := fun b w g base cap hc h => str_room b w g base cap hc h
    full := fun b w g base cap l h0 hlc n hsh hcn h63 hcell h => str_full b w g base cap l h0 hlc n hsh hcn h63 hcell h }

theorem writeByte (bs : List UInt8) (c : UInt8) (hlen : bs.length < 1000000000) : BCalls E 98 [.ptr 1 0 0, .int .u8 (c.toNat : Int)] [.bld 90 5 bs] fun r ks => r = .lit .nilIface ∧ ks = [.bld 90 5 (bs ++ [c])] := by
  refine b98 hE fun l => ?_
  conv => whnf
  refine CallG.a (((bldP hE).check l bs).mono fun r H' ⟨h1, h2⟩ => ?_)
  subst h1 h2
  conv => whnf
  refine ⟨⟨rfl, rfl, rfl, by simp [bytesAV_length], by decide, ?_⟩, ?_⟩
  · simp [chunkK]; omega
  conv => whnf
  refine RetG.fold (bs := bs ++ [c]) (v2 := 1) (by simp) rfl ?_ ⟨rfl, rfl⟩
  simp [bytesAV_append, chunkK, takeK, appK, dropK, AOpd.ev, bytesAV_take]
  rfl

theorem writeString (bs s : List UInt8) (hlen : bs.length + s.length < 1000000000) : BCalls E 56 [.ptr 1 0 0, .str s] [.bld 90 5 bs] fun r ks => r = .tup [.int .i64 s.length, .lit .nilIface] ∧ ks = [.bld 90 5 (bs ++ s)] := by
  by_cases h0 : bs ++ s = []
  · obtain ⟨rfl, rfl⟩ := List.append_eq_nil_iff.mp h0
    refine BldP.empty (bldP hE) (f := 56) ?_ ?_
    · rw [hE]; exact enter_of Tryz.func56 rfl (by decide)
    · rw [hE]; exact ws_empty
  · refine b56 hE fun l => ?_
    conv => whnf
    refine CallG.a (((bldP hE).check l bs).mono fun r H' ⟨h1, h2⟩ => ?_)
    subst h1 h2
    conv => whnf
    refine ⟨⟨trivial, rfl, rfl, by simp [bytesAV_length], by decide, by omega⟩, ?_⟩
    conv => whnf
    refine ⟨by omega, ?_⟩
    conv => whnf
    refine RetG.fold (bs := bs ++ s) (v2 := 1) h0 rfl ?_ ⟨rfl, rfl⟩
    simp [bytesAV_append, chunkK, takeK, appK, dropK, AOpd.ev, bytesAV_take]

theorem string (bs : List UInt8) (hlen : bs.length < 1000000000) : BCalls E 53 [.ptr 1 0 0] [.bld 90 5 bs] fun r ks => r = .str bs ∧ ks = [.cells 90 []] :=
  (bldP hE).string (by omega)
end Ink.D

namespace Ink.D
open Go Go.Proofs
set_option maxRecDepth 100000
variable {E : Env} (hE : E.P = Tryz.prog)
abbrev big : Nat := 100000000
def u8 (c : UInt8) : AV := .int .u8 (c.toNat : Int)
abbrev ix := Lib.indexByte

theorem ix_le (l : List UInt8) (c : UInt8) : -1 ≤ ix l c ∧ ix l c < l.length := by
  induction l with
  | nil => simp [ix, Lib.indexByte]
  | cons b l ih =>
    simp only [ix, Lib.indexByte] at *
    split
    · simp
    · split
      · simp; omega
      · simp at *; omega

include hE
theorem index106 (s : List UInt8) (c : UInt8) (hs : s.length < big) : PCalls E 247 [.str s, .int .u8 (c.toNat : Int)] (· = .int .i64 (ix s c)) := by
  unfold PCalls
  intro H
  unfold ACalls
  intro cx vs hH hr hg hl
  obtain ⟨v, u, rfl, hv, hu⟩ : ∃ v u, vs = [v, u] ∧ VR cx (.str s) v ∧ VR cx (.int .u8 (c.toNat : Int)) u := by
    match vs, hl.len with
    | [v, u], _ => exact ⟨v, u, rfl, hl.at_ 0 _ v rfl rfl, hl.at_ 1 _ u rfl rfl⟩
  cases hv with
  | str _ st hst =>
    cases hu with
    | int _ _ hk =>
      refine .inr ⟨.int .i64 (ix s c), cx.w, ?_, cx, _, rfl, hr, Ext.refl cx, .int _ _ ?_, rfl, hH⟩
      · rw [hE]
        rw [run_callFunc_indexByte Tryz.func247 (by decide) rfl (by decide) rfl, Lib.run_indexByteString, hst]
        simp [Result.andThen, ix]
      · have := ix_le s c
        unfold big at hs
        constructor
        · show (-9223372036854775808 : Int) ≤ _; omega
        · show _ ≤ (9223372036854775807 : Int); omega

theorem index73 (s : List UInt8) (c : UInt8) (hs : s.length < big) : PCalls E 214 [.str s, .int .u8 (c.toNat : Int)] (· = .int .i64 (ix s c)) := by
  refine p214 hE fun l => ?_
  conv => whnf
  refine CallG.e (index106 hE s c hs) ?_
  conv => whnf
  exact RetG.q ⟨rfl, rfl, rfl⟩

theorem index47 (s : List UInt8) (c : UInt8) (hs : s.length < big) : PCalls E 151 [.str s, .int .u8 (c.toNat : Int)] (· = .int .i64 (ix s c)) := by
  refine p151 hE fun l => ?_
  conv => whnf
  refine CallG.e (index73 hE s c hs) ?_
  conv => whnf
  exact RetG.q ⟨rfl, rfl, rfl⟩

omit hE in
theorem ix_mem (l : List UInt8) (c : UInt8) : 0 ≤ ix l c ↔ c ∈ l := by
  induction l with
  | nil => simp [ix, Lib.indexByte]
  | cons b l ih =>
    have := ix_le l c
    simp only [ix, Lib.indexByte] at *
    by_cases h : b = c
    · simp [h]
    · have h' : ¬ c = b := fun e => h e.symm
      simp only [beq_iff_eq, h, if_false, List.mem_cons, h', false_or, ← ih]
      split <;> omega

omit hE in
def isWhite (c : UInt8) : Bool := c == 0 || c == 9 || c == 10 || c == 12 || c == 13 || c == 32
def isDelim (c : UInt8) : Bool := decide (c ∈ ([40, 41, 60, 62, 91, 93, 123, 125, 47, 37] : List UInt8))
def isReg (c : UInt8) : Bool := !isWhite c && !isDelim c

theorem white (c : UInt8) : PCalls E 178 [.int .u8 (c.toNat : Int)] (· = .bool (isWhite c)) := by
  refine p178 hE fun l => ?_
  repeat' ((conv => whnf); split)
  all_goals
    conv => whnf
    refine RetG.q ⟨rfl, ?_, rfl⟩
    simp_all [isWhite, zEq, zEq0]

theorem delim (c : UInt8) : PCalls E 179 [.int .u8 (c.toNat : Int)] (· = .bool (isDelim c)) := by
  refine p179 hE fun l => ?_
  conv => whnf
  refine CallG.e (index47 hE _ c (by decide)) ?_
  conv => whnf
  refine RetG.q ⟨rfl, ?_, rfl⟩
  simp only [isDelim, ix_mem]

theorem regular (c : UInt8) : PCalls E 150 [.int .u8 (c.toNat : Int)] (· = .bool (isReg c)) := by
  refine p150 hE fun l => ?_
  conv => whnf
  refine CallG.e (white hE c) ?_
  conv => whnf
  cases hw : isWhite c
  · conv => whnf
    refine CallG.e (delim hE c) ?_
    conv => whnf
    refine RetG.q ⟨rfl, ?_, rfl⟩
    simp [isReg, hw]
  · conv => whnf
    refine RetG.q ⟨rfl, ?_, rfl⟩
    simp [isReg, hw]

omit hE in
def whileL (p : UInt8 → Bool) (s : List UInt8) (k : Nat) : Nat := k + ((s.drop k).takeWhile p).length

omit hE in
theorem whileL_lt {p : UInt8 → Bool} {s : List UInt8} {k : Nat} (h : k < s.length) (hp : p s[k] = true) : whileL p s k = whileL p s (k + 1) := by
  unfold whileL
  rw [List.drop_eq_getElem_cons h, List.takeWhile_cons_of_pos hp]
  simp; omega
omit hE in
theorem whileL_st {p : UInt8 → Bool} {s : List UInt8} {k : Nat} (h : k < s.length) (hp : ¬ p s[k] = true) : whileL p s k = k := by
  unfold whileL
  rw [List.drop_eq_getElem_cons h, List.takeWhile_cons_of_neg hp]
  simp
omit hE in
theorem whileL_ge {p : UInt8 → Bool} {s : List UInt8} {k : Nat} (h : s.length ≤ k) : whileL p s k = k := by
  unfold whileL
  rw [List.drop_eq_nil_of_le h]
  simp
omit hE in
theorem whileL_le (p : UInt8 → Bool) (s : List UInt8) (k : Nat) (h : k ≤ s.length) : k ≤ whileL p s k ∧ whileL p s k ≤ s.length := by
  unfold whileL
  have := (List.takeWhile_sublist p (l := s.drop k)).length_le
  simp at this
  omega

theorem while_ (s : List UInt8) (k : Nat) (f : Nat) (p : UInt8 → Bool) (hs : s.length < big) (hk : k ≤ s.length)
    (hp : ∀ c : UInt8, PCalls E f [.int .u8 (c.toNat : Int)] (· = .bool (p c))) : PCalls E 200 [.str s, .int .i64 k, .fn (.func f) [] []] (· = .int .i64 (whileL p s k)) := by
  unfold big at hs
  refine p200 hE fun l => ?_
  conv => whnf
  refine LoopG.s (fun x : Nat => x ≤ s.length ∧ whileL p s x = whileL p s k) 21 (fun x => [(0, .str s), (1, .int .i64 x), (2, .fn (.func f) [] [])]) (fun _ => frm l) (fun x => s.length - x) k ⟨hk, rfl⟩ rfl ⟨rfl, rfl, rfl⟩ rfl ?_
  rintro x ⟨h1, h2⟩
  conv => whnf
  refine ⟨by omega, ?_⟩
  conv => whnf
  split
  · rename_i hlt
    have hlt : x < s.length := by simpa using hlt
    have hg : s.getD (x : Int).toNat 0 = s[x] := by simp [hlt]
    conv => whnf
    refine ⟨by omega, ?_⟩
    conv => whnf
    refine CallG.e (hp _) ?_
    conv => whnf
    split
    · rename_i hc
      conv => whnf
      refine ⟨by unfold inI64; omega, ?_⟩
      conv => whnf
      refine ⟨x + 1, ⟨⟨hlt, ?_⟩, by omega⟩, Wk.slots rfl ⟨rfl, rfl, rfl⟩⟩
      rw [hg] at hc
      rw [← h2, whileL_lt hlt hc]
    · rename_i hc
      conv => whnf
      rw [hg] at hc
      refine RetG.q ⟨rfl, ?_, rfl⟩
      rw [← h2, whileL_st hlt (by simp [hc])]
  · rename_i hlt
    conv => whnf
    refine RetG.q ⟨rfl, ?_, rfl⟩
    rw [← h2, whileL_ge (by simpa using hlt)]
end Ink.D

namespace Ink.D
open Go Go.Proofs
set_option maxRecDepth 100000
variable {E : Env} (hE : E.P = Tryz.prog)

def notEol (c : UInt8) : Bool := c != 10 && c != 13

def skip : List UInt8 → Bool → Nat
  | [], _ => 0
  | c :: r, true => if notEol c then 1 + skip r true else 1 + skip r false
  | c :: r, false => if isWhite c then 1 + skip r false else if c = 37 then 1 + skip r true else 0

theorem u8neg (c : UInt8) (n : Nat) (h : n < 256) : decide ((c.toNat : Int) ≠ (no_index (OfNat.ofNat n) : Int)) = (c != (OfNat.ofNat n : UInt8)) := by
  rw [Bool.eq_iff_iff]
  simp [zEq c n h]

include hE
end Ink.D

namespace Ink.D
open Go Go.Proofs
set_option maxRecDepth 100000
variable {E : Env} (hE : E.P = Tryz.prog)

theorem u8eql (c d : UInt8) : ((c.toNat : Int) = (d.toNat : Int)) ↔ c = d := by
  rw [← UInt8.toNat_inj]; omega

theorem getD_at (l : List UInt8) (x : Nat) (h : x < l.length) : l.getD (x : Int).toNat 0 = l[x] := by simp [h]

include hE
theorem rwhite (c : UInt8) : PCalls E 206 [.int .u8 (c.toNat : Int)] (· = .bool (isWhite c)) := by
  refine p206 hE fun l => ?_
  repeat' ((conv => whnf); split)
  all_goals
    conv => whnf
    refine RetG.q ⟨rfl, congrArg AV.bool ?_, rfl⟩
    rw [Bool.eq_iff_iff]
    simp_all [isWhite, zEq, zEq0]

omit hE in
theorem drop_mem (l : List UInt8) (c : UInt8) (x : Nat) (h : x < l.length) : c ∈ l.drop x ↔ (l[x] = c ∨ c ∈ l.drop (x + 1)) := by
  rw [List.drop_eq_getElem_cons h, List.mem_cons]
  exact or_congr_left eq_comm

theorem rdelim (c : UInt8) : PCalls E 144 [.int .u8 (c.toNat : Int)] (· = .bool (isDelim c)) := by
  refine p144 hE fun l => ?_
  conv => whnf
  refine LoopG.s (fun x : Nat => x ≤ 10 ∧ isDelim c = decide (c ∈ ([40, 41, 60, 62, 91, 93, 123, 125, 47, 37] : List UInt8).drop x)) 16 (fun x => [(0, .int .u8 (c.toNat : Int)), (3, .str [40, 41, 60, 62, 91, 93, 123, 125, 47, 37]), (4, .int .i64 x)]) (fun _ => frm l) (fun x => 10 - x) 0 ⟨by omega, rfl⟩ rfl ⟨rfl, rfl, rfl⟩ rfl ?_
  rintro x ⟨h1, h2⟩
  conv => whnf
  refine ⟨by decide, ?_⟩
  conv => whnf
  split
  · rename_i hlt
    have hlt : x < 10 := by simp at hlt; omega
    have hl : x < ([40, 41, 60, 62, 91, 93, 123, 125, 47, 37] : List UInt8).length := hlt
    have hg : ([40, 41, 60, 62, 91, 93, 123, 125, 47, 37] : List UInt8).getD (x : Int).toNat 0 = ([40, 41, 60, 62, 91, 93, 123, 125, 47, 37] : List UInt8)[x] := getD_at _ x hl
    have hm := drop_mem _ c x hl
    conv => whnf
    refine ⟨⟨by omega, by simp; omega⟩, ?_⟩
    conv => whnf
    split
    · rename_i hc
      rw [hg] at hc
      simp only [u8eql, decide_eq_true_eq] at hc
      conv => whnf
      refine RetG.q ⟨rfl, congrArg AV.bool ?_, rfl⟩
      rw [h2, eq_comm, decide_eq_true_eq, hm]
      exact .inl hc
    · rename_i hc
      rw [hg] at hc
      simp only [u8eql, decide_eq_false_iff_not] at hc
      conv => whnf
      refine ⟨by unfold inI64; omega, ?_⟩
      conv => whnf
      refine ⟨x + 1, ⟨⟨hlt, ?_⟩, by omega⟩, Wk.slots rfl ⟨rfl, rfl, rfl⟩⟩
      rw [h2, decide_eq_decide, hm]
      simp [hc]
  · rename_i hlt
    have hlt : ¬ x < 10 := by simp at hlt; omega
    conv => whnf
    refine RetG.q ⟨rfl, congrArg AV.bool ?_, rfl⟩
    rw [h2]
    have : x = 10 := by omega
    subst this; rfl

theorem rregular (c : UInt8) : PCalls E 156 [.int .u8 (c.toNat : Int)] (· = .bool (isReg c)) := by
  refine p156 hE fun l => ?_
  conv => whnf
  refine CallG.e (rwhite hE c) ?_
  conv => whnf
  cases hw : isWhite c
  · conv => whnf
    refine CallG.e (rdelim hE c) ?_
    conv => whnf
    refine RetG.q ⟨rfl, congrArg AV.bool ?_, rfl⟩
    simp [isReg, hw]
  · conv => whnf
    refine RetG.q ⟨rfl, congrArg AV.bool ?_, rfl⟩
    simp [isReg, hw]

end Ink.D

namespace Ink.D
open Go Go.Proofs
set_option maxRecDepth 100000
variable {E : Env} (hE : E.P = Tryz.prog)

theorem u8all {p : UInt8 → Prop} (h : ∀ n, n < 256 → p (UInt8.ofNat n)) (c : UInt8) : p c := by
  have := h c.toNat c.toNat_lt
  simpa using this

def hexN (c : UInt8) : Option UInt8 :=
  if 48 ≤ c ∧ c ≤ 57 then some (c - 48) else if 97 ≤ c ∧ c ≤ 102 then some (c - 87) else if 65 ≤ c ∧ c ≤ 70 then some (c - 55) else none

def digAV (o : Option UInt8) : AV := .tup [.int .u8 (((o.getD 0).toNat : Nat) : Int), .bool o.isSome]

theorem tup2 {k : IntKind} {a b : Int} {c d : Bool} (h1 : a = b) (h2 : c = d) : AV.tup [.int k a, .bool c] = AV.tup [.int k b, .bool d] := by rw [h1, h2]

include hE
theorem digit (c : UInt8) : PCalls E 240 [.int .u8 (c.toNat : Int)] (· = digAV (hexN c)) := by
  refine p240 hE fun l => ?_
  repeat' ((conv => whnf); split)
  all_goals
    conv => whnf
    refine RetG.q ⟨rfl, ?_, rfl⟩
    refine tup2 ?_ ?_
    all_goals
      rename_i h
      clear hE
      revert c
      refine u8all ?_
      decide +kernel

omit hE in
theorem wrap_u8 (n : Nat) (h : n < 256) : IntKind.wrap .u8 (n : Int) = n := by
  simp only [IntKind.wrap, IntKind.bits, IntKind.signed, Bool.false_and, Bool.false_eq_true, if_false]
  exact Int.emod_eq_of_lt (by omega) (by omega)

omit hE in
theorem or_u8 (a b : UInt8) : bits .or .u8 (a.toNat : Int) (b.toNat : Int) = ((a ||| b).toNat : Int) := by
  have e : ∀ x : UInt8, BitVec.ofInt 8 (x.toNat : Int) = x.toBitVec := fun x => by
    apply BitVec.eq_of_toNat_eq
    simp
  show IntKind.wrap .u8 ((BitVec.ofInt 8 (a.toNat : Int) ||| BitVec.ofInt 8 (b.toNat : Int)).toNat : Int) = _
  rw [e a, e b]
  exact wrap_u8 _ (a ||| b).toNat_lt

omit hE in
theorem shl4_u8 (a : UInt8) : IntKind.wrap .u8 ((a.toNat : Int) * 2 ^ (min (4 : Int).toNat (IntKind.bits .u8))) = ((a <<< 4).toNat : Int) := by
  revert a
  refine u8all ?_
  decide +kernel

def octV (s : List UInt8) : Option UInt8 :=
  match s with
  | a :: b :: _ => match hexN a, hexN b with
    | some x, some y => some (x <<< 4 ||| y)
    | _, _ => none
  | _ => none

omit hE in
def octQ (s : List UInt8) (r : AV) : Prop := ∃ v : UInt8, r = .tup [.int .u8 (v.toNat : Int), .bool (octV s).isSome] ∧ ∀ x, octV s = some x → v = x

theorem octet (s : List UInt8) (hs : s.length < big) : PCalls E 260 [.str s] (octQ s) := by
  unfold big at hs
  refine p260 hE fun l => ?_
  conv => whnf
  refine ⟨by omega, ?_⟩
  conv => whnf
  match s, hs with
  | [], hs =>
    conv => whnf
    exact RetG.q ⟨rfl, ⟨0, rfl, fun x h => by cases h⟩, rfl⟩
  | [a], hs =>
    conv => whnf
    exact RetG.q ⟨rfl, ⟨0, rfl, fun x h => by cases h⟩, rfl⟩
  | a :: b :: r, hs =>
    have h2 : decide (((a :: b :: r).length : Int) < 2) = false := by simp; omega
    rw [h2]
    conv => whnf
    refine ⟨by simp; omega, ?_⟩
    conv => whnf
    refine CallG.e (digit hE _) ?_
    conv => whnf
    refine ⟨by simp; omega, ?_⟩
    conv => whnf
    refine CallG.e (digit hE _) ?_
    conv => whnf
    refine ⟨by decide, ?_⟩
    have e0 : (a :: b :: r).getD (Int.toNat 0) 0 = a := rfl
    have e1 : (a :: b :: r).getD (Int.toNat 1) 0 = b := rfl
    rw [e0, e1, shl4_u8]
    conv => whnf
    rw [or_u8]
    cases ha : hexN a with
    | none =>
      conv => whnf
      exact RetG.q ⟨rfl, ⟨_, tup2 rfl (by simp [octV, ha]), fun x h => by simp [octV, ha] at h⟩, rfl⟩
    | some x =>
      conv => whnf
      refine RetG.q ⟨rfl, ⟨_, tup2 rfl (by cases hb : hexN b <;> simp [octV, ha, hb]), fun y h => ?_⟩, rfl⟩
      cases hb : hexN b with
      | none => simp [octV, ha, hb] at h
      | some z => simp [octV, ha, hb] at h; simp [h]

/-! strings -/
theorem hasPrefix98 (s t : List UInt8) (hs : s.length < big) (ht : t.length < big) : PCalls E 231 [.str s, .str t] (· = .bool (t.isPrefixOf s)) := by
  unfold big at hs ht
  refine p231 hE fun l => ?_
  conv => whnf
  refine ⟨by omega, ?_⟩
  conv => whnf
  refine ⟨by omega, ?_⟩
  conv => whnf
  split
  · rename_i h
    have h : t.length ≤ s.length := by simp at h; omega
    conv => whnf
    refine ⟨by omega, ?_⟩
    conv => whnf
    refine ⟨by omega, ?_⟩
    conv => whnf
    refine RetG.q ⟨rfl, congrArg AV.bool ?_, rfl⟩
    rw [Bool.eq_iff_iff]
    simp only [decide_eq_true_eq, List.isPrefixOf_iff_prefix, List.prefix_iff_eq_take]
    exact eq_comm
  · rename_i h
    have h : ¬ t.length ≤ s.length := by simp at h; omega
    conv => whnf
    refine RetG.q ⟨rfl, congrArg AV.bool ?_, rfl⟩
    rw [eq_comm, Bool.eq_false_iff, ne_eq, List.isPrefixOf_iff_prefix]
    exact fun hp => h hp.length_le

theorem hasPrefix (s t : List UInt8) (hs : s.length < big) (ht : t.length < big) : PCalls E 185 [.str s, .str t] (· = .bool (t.isPrefixOf s)) := by
  refine p185 hE fun l => ?_
  conv => whnf
  refine CallG.e (hasPrefix98 hE s t hs ht) ?_
  conv => whnf
  exact RetG.q ⟨rfl, rfl, rfl⟩

theorem index151 (s : List UInt8) (c : UInt8) (hs : s.length < big) : PCalls E 276 [.str s, .str [c]] (· = .int .i64 (ix s c)) := by
  refine p276 hE fun l => ?_
  conv => whnf
  refine ⟨by simp, ?_⟩
  conv => whnf
  split
  · rename_i h
    have h : [c] = s := by simpa using h
    conv => whnf
    refine RetG.q ⟨rfl, ?_, rfl⟩
    rw [← h]; simp [ix, Lib.indexByte]
  · conv => whnf
    refine ⟨by simp, ?_⟩
    conv => whnf
    refine CallG.e (index73 hE s c hs) ?_
    conv => whnf
    exact RetG.q ⟨rfl, rfl, rfl⟩

def cutL (s : List UInt8) (c : UInt8) : List UInt8 × List UInt8 × Bool :=
  match s with
  | [] => ([], [], false)
  | b :: r => if b = c then ([], r, true) else let (x, y, z) := cutL r c; (b :: x, y, z)

omit hE in
theorem cutL_ix (s : List UInt8) (c : UInt8) : (0 ≤ ix s c → cutL s c = (s.take (ix s c).toNat, s.drop ((ix s c).toNat + 1), true)) ∧ (¬ 0 ≤ ix s c → cutL s c = (s, [], false)) := by
  induction s with
  | nil => simp [ix, Lib.indexByte, cutL]
  | cons b r ih =>
    have := ix_le r c
    simp only [ix, Lib.indexByte, cutL] at *
    by_cases h : b = c
    · simp [h]
    · simp only [h, beq_iff_eq, if_false]
      by_cases h0 : 0 ≤ Lib.indexByte r c
      · have hne : ¬ Lib.indexByte r c = -1 := by omega
        have e : (Lib.indexByte r c + 1).toNat = (Lib.indexByte r c).toNat + 1 := by omega
        simp only [hne, if_false, e, ih.1 h0, List.take_succ_cons, List.drop_succ_cons]
        exact ⟨fun _ => trivial, fun hn => (hn (by omega)).elim⟩
      · have hne : Lib.indexByte r c = -1 := by omega
        simp only [hne, if_true, ih.2 h0]
        exact ⟨fun hn => by omega, fun _ => trivial⟩

def cutAV (x : List UInt8 × List UInt8 × Bool) : AV := .tup [.str x.1, .str x.2.1, .bool x.2.2]

theorem cut148 (s : List UInt8) (c : UInt8) (hs : s.length < big) : PCalls E 273 [.str s, .str [c]] (· = cutAV (cutL s c)) := by
  refine p273 hE fun l => ?_
  conv => whnf
  refine CallG.e (index151 hE s c hs) ?_
  have hx := ix_le s c
  have hc := cutL_ix s c
  conv => whnf
  split
  · rename_i h
    have h : 0 ≤ ix s c := by simpa using h
    conv => whnf
    refine ⟨by omega, ?_⟩
    conv => whnf
    refine ⟨by simp, ?_⟩
    conv => whnf
    refine ⟨by unfold inI64; unfold big at hs; simp; omega, ?_⟩
    conv => whnf
    refine ⟨by simp; omega, ?_⟩
    conv => whnf
    refine RetG.q ⟨rfl, ?_, rfl⟩
    rw [hc.1 h]
    have e : (ix s c + ([c].length : Int)).toNat = (ix s c).toNat + 1 := by simp; omega
    simp only [cutAV, e]
  · rename_i h
    have h : ¬ 0 ≤ ix s c := by simpa using h
    conv => whnf
    refine RetG.q ⟨rfl, ?_, rfl⟩
    rw [hc.2 h]; rfl

theorem cut (s : List UInt8) (c : UInt8) (hs : s.length < big) : PCalls E 259 [.str s, .str [c]] (· = cutAV (cutL s c)) := by
  refine p259 hE fun l => ?_
  conv => whnf
  refine CallG.e (cut148 hE s c hs) ?_
  conv => whnf
  exact RetG.q ⟨rfl, rfl, rfl⟩

omit hE in
def namedL (s : List UInt8) : Option (List UInt8) :=
  match s with
  | [] => some []
  | c :: r => if c = 35 then match octV r with
      | some b => (namedL (r.drop 2)).map (b :: ·)
      | none => none
    else (namedL r).map (c :: ·)
termination_by s.length
decreasing_by all_goals (simp; try omega)

omit hE in
theorem namedL_cut (s : List UInt8) : namedL s = match cutL s 35 with
    | (a, b, z) => if z then match octV b with
        | some x => (namedL (b.drop 2)).map (fun t => a ++ x :: t)
        | none => none
      else some a := by
  induction s with
  | nil => simp [namedL, cutL]
  | cons c r ih =>
    rw [namedL, cutL]
    by_cases h : c = 35
    · simp only [h, if_true]
      cases octV r with
      | none => rfl
      | some x => simp
    · simp only [h, if_false]
      rw [ih]
      obtain ⟨a, b, z⟩ := cutL r 35
      cases z with
      | false => simp
      | true =>
        simp only [if_true]
        cases octV b with
        | none => rfl
        | some x => simp [Function.comp_def]

omit hE in
theorem cutL_len (s : List UInt8) (c : UInt8) : (cutL s c).1.length + (cutL s c).2.1.length + (if (cutL s c).2.2 then 1 else 0) = s.length := by
  induction s with
  | nil => simp [cutL]
  | cons b r ih =>
    rw [cutL]
    by_cases h : b = c
    · simp [h]
    · simp only [h, if_false, List.length_cons]
      generalize cutL r c = q at ih
      obtain ⟨x, y, z⟩ := q
      simp only at ih
      simp only [List.length_cons]; omega

def nmAV (o : Option (List UInt8)) : AV := match o with
  | some t => .tup [.str t, .int .i64 0]
  | none => .tup [.str [], .int .i64 3]

theorem named (s : List UInt8) (hs : s.length < big) : PCalls E 238 [.str s] (· = nmAV (namedL s)) := by
  unfold big at hs
  refine p238 hE fun l => ?_
  conv => whnf
  refine LoopG.s (fun x : List UInt8 × List UInt8 => x.1.length + x.2.length ≤ s.length ∧ namedL s = (namedL x.1).map (x.2 ++ ·)) 32 (fun x => [(0, .str x.1), (4, .ptr 1 0 0)]) (fun x => [⟨0, true, .frame l⟩, ⟨0, true, .bld 90 5 x.2⟩]) (fun x => x.1.length) (s, []) ⟨by simp, by simp⟩ rfl ⟨rfl, rfl⟩ rfl ?_
  rintro ⟨t, bs⟩ ⟨h1, h2⟩
  simp only at h1 h2
  conv => whnf
  refine CallG.e (cut hE t 35 (by unfold big; omega)) ?_
  have hc := namedL_cut t
  have hl := cutL_len t 35
  generalize cutL t 35 = q at hc hl
  obtain ⟨a, b, z⟩ := q
  simp only at hc hl
  conv => whnf
  refine CallG.b [(1, 0)] (writeString hE bs a (by omega)) ⟨rfl, trivial⟩ ⟨.ptr 0 1 0 0 rfl, .same _ rfl, trivial⟩ (fun r ks' hq _ _ => ?_)
  obtain ⟨rfl, rfl⟩ := hq
  conv => whnf
  cases z with
  | false =>
    conv => whnf
    refine CallG.b [(1, 0)] (string hE (bs ++ a) (by simp; omega)) ⟨rfl, trivial⟩ ⟨.ptr 0 1 0 0 rfl, trivial⟩ (fun r ks' hq _ _ => ?_)
    obtain ⟨rfl, rfl⟩ := hq
    conv => whnf
    refine RetG.drop rfl rfl rfl ⟨rfl, ?_, rfl⟩
    rw [h2, hc]; rfl
  | true =>
    simp only [if_true] at hc
    have hl : a.length + b.length + 1 = t.length := by simpa using hl
    conv => whnf
    refine CallG.p (octet hE b (by unfold big; omega)) (fun r hq => ?_)
    obtain ⟨v, rfl, hv⟩ := hq
    conv => whnf
    cases ho : octV b with
    | none =>
      conv => whnf
      refine RetG.drop rfl rfl rfl ⟨rfl, ?_, rfl⟩
      rw [h2, hc, ho]; rfl
    | some x =>
      have hv := hv x ho
      subst hv
      conv => whnf
      refine CallG.b [(1, 0)] (writeByte hE (bs ++ a) v (by simp; omega)) ⟨rfl, trivial⟩ ⟨.ptr 0 1 0 0 rfl, .same _ rfl, trivial⟩ (fun r ks' hq _ _ => ?_)
      obtain ⟨rfl, rfl⟩ := hq
      have hb : 2 ≤ b.length := by
        match b, ho with
        | _ :: _ :: _, _ => simp
      conv => whnf
      refine ⟨by show (0 : Int) ≤ 2 ∧ (2 : Int) ≤ b.length; omega, ?_⟩
      conv => whnf
      refine ⟨(b.drop 2, bs ++ a ++ [v]), ⟨⟨by simp; omega, ?_⟩, by simp; omega⟩, Wk.slots rfl ⟨rfl, rfl⟩⟩
      rw [h2, hc, ho]
      simp [Function.comp_def]
end Ink.D

namespace Ink.D
open Go Go.Proofs
set_option maxRecDepth 100000
variable {E : Env} (hE : E.P = Tryz.prog)

def tk (kind f : Int) (s : List UInt8) (whole : Bool) (from_ to : Int) : AV := .agg [.int .i64 kind, .int .i64 f, .str s, .bool whole, .int .i64 from_, .int .i64 to]
def tkE (t : AV) (e : Int) : AV := .tup [t, .int .i64 e]

def nameSub (s : List UInt8) (k : Nat) : List UInt8 := (s.drop (k + 1)).takeWhile isReg

theorem take_tw (p : UInt8 → Bool) : ∀ l : List UInt8, l.take (l.takeWhile p).length = l.takeWhile p
  | [] => rfl
  | c :: r => by
    by_cases h : p c = true
    · rw [List.takeWhile_cons_of_pos h]; simpa using take_tw p r
    · rw [List.takeWhile_cons_of_neg h]; rfl

theorem take_whileL (p : UInt8 → Bool) (s : List UInt8) (k : Nat) : (s.drop k).take (whileL p s k - k) = (s.drop k).takeWhile p := by
  unfold whileL
  rw [Nat.add_sub_cancel_left, take_tw]

def nameE (s : List UInt8) (k : Nat) : Int := if (namedL (nameSub s k)).isSome then 0 else 3

include hE
theorem name (s : List UInt8) (k : Nat) (hs : s.length < big) (hk : k < s.length) : PCalls E 202 [.str s, tk 0 0 [] false k 0] (· = tkE (tk 2 0 ((namedL (nameSub s k)).getD []) false k (whileL isReg s (k + 1))) (nameE s k)) := by
  unfold big at hs
  refine p202 hE fun l => ?_
  conv => whnf
  refine ⟨by unfold inI64; omega, ?_⟩
  conv => whnf
  refine CallG.e (while_ hE s (k + 1) 150 isReg (by unfold big; omega) hk (regular hE)) ?_
  have hw := whileL_le isReg s (k + 1) hk
  conv => whnf
  refine ⟨by unfold inI64; omega, ?_⟩
  conv => whnf
  refine ⟨by omega, ?_⟩
  have e1 : ((k : Int) + 1).toNat = k + 1 := by omega
  have e2 : ((s.drop ((k : Int) + 1).toNat).take ((whileL isReg s (k + 1) : Int).toNat - ((k : Int) + 1).toNat)) = nameSub s k := by
    rw [e1, Int.toNat_natCast, take_whileL]; rfl
  rw [e2]
  have hn : (nameSub s k).length < big := by
    have := (List.takeWhile_sublist isReg (l := s.drop (k + 1))).length_le
    simp at this
    unfold nameSub big; omega
  conv => whnf
  refine CallG.e (named hE (nameSub s k) hn) ?_
  cases ho : namedL (nameSub s k) with
  | none =>
    conv => whnf
    refine RetG.drop rfl rfl rfl ⟨rfl, ?_, rfl⟩
    simp only [nameE, ho]; rfl
  | some t =>
    conv => whnf
    refine RetG.drop rfl rfl rfl ⟨rfl, ?_, rfl⟩
    simp only [nameE, ho]; rfl
end Ink.D

namespace Ink.D
open Go Go.Proofs
set_option maxRecDepth 100000
variable {E : Env} (hE : E.P = Tryz.prog)

def isOct (c : UInt8) : Bool := decide (48 ≤ c ∧ c ≤ 55)

def octG : Nat → List UInt8 → Nat → Nat × Nat
  | 0, _, v => (v, 0)
  | _ + 1, [], v => (v, 0)
  | n + 1, c :: r, v => if isOct c then let (w, k) := octG n r (v * 8 + (c.toNat - 48)); (w, k + 1) else (v, 0)

def octalL (s : List UInt8) : Nat × Nat := octG 3 s 0

theorem octG_le : ∀ (n : Nat) (s : List UInt8) (v : Nat), (octG n s v).2 ≤ n ∧ (octG n s v).2 ≤ s.length
  | 0, _, _ => by simp [octG]
  | _ + 1, [], _ => by simp [octG]
  | n + 1, c :: r, v => by
    rw [octG]
    have := octG_le n r (v * 8 + (c.toNat - 48))
    split
    · simp only [List.length_cons]; omega
    · simp

theorem shl3 (v : Nat) (h : v < 64) (c : UInt8) (hc : isOct c = true) :
    bits .or .i64 (IntKind.wrap .i64 ((v : Int) * 2 ^ (min (3 : Int).toNat (IntKind.bits .i64)))) (IntKind.wrap .u8 ((c.toNat : Int) - 48)) = ((v * 8 + (c.toNat - 48) : Nat) : Int) := by
  have key : ∀ v, v < 64 → ∀ d, d < 8 → bits .or .i64 (IntKind.wrap .i64 ((v : Nat) * 2 ^ (min (3 : Int).toNat (IntKind.bits .i64)))) (d : Nat) = ((v * 8 + d : Nat) : Int) := by decide +kernel
  have hc' : 48 ≤ c.toNat ∧ c.toNat ≤ 55 := by
    simp only [isOct, decide_eq_true_eq, UInt8.le_iff_toNat_le] at hc
    exact hc
  have e : IntKind.wrap .u8 ((c.toNat : Int) - 48) = ((c.toNat - 48 : Nat) : Int) := by
    have : ((c.toNat : Int) - 48) = ((c.toNat - 48 : Nat) : Int) := by omega
    rw [this, wrap_u8 _ (by omega)]
  rw [e]
  exact key v h _ (by omega)

def octAV (x : Nat × Nat) : AV := .tup [.int .u8 (IntKind.wrap .u8 (x.1 : Int)), .int .i64 x.2]

include hE
theorem octal (s : List UInt8) (hs : s.length < big) : PCalls E 261 [.str s] (· = octAV (octalL s)) := by
  unfold big at hs
  refine p261 hE fun l => ?_
  conv => whnf
  refine LoopG.s (fun x : Nat × Nat => x.2 ≤ 3 ∧ x.2 ≤ s.length ∧ x.1 < 8 ^ x.2 ∧ octalL s = ((octG (3 - x.2) (s.drop x.2) x.1).1, (octG (3 - x.2) (s.drop x.2) x.1).2 + x.2)) 36 (fun x => [(0, .str s), (4, .int .i64 x.2), (5, .int .i64 x.1)]) (fun _ => frm l) (fun x => 3 - x.2) (0, 0) ⟨by simp, by simp, by simp, by simp [octalL]⟩ rfl ⟨rfl, rfl, rfl⟩ rfl ?_
  rintro ⟨v, n⟩ ⟨h1, h2, h3, h4⟩
  simp only at h1 h2 h3 h4
  dsimp only
  conv => whnf
  refine ⟨by omega, ?_⟩
  conv => whnf
  have emin : (if false = true then if (3 : Int) > (s.length : Int) then (3 : Int) else (s.length : Int) else if (3 : Int) < (s.length : Int) then (3 : Int) else (s.length : Int)) = ((min s.length 3 : Nat) : Int) := by
    simp only [Bool.false_eq_true, if_false]; split <;> omega
  rw [emin]
  have stop : (octG (3 - n) (s.drop n) v = (v, 0)) → octalL s = (v, n) := fun h => by rw [h4, h]; simp
  split
  · rename_i hlt
    have hlt : n < s.length ∧ n < 3 := by simp at hlt; omega
    have hg := getD_at s n hlt.1
    have hd := List.drop_eq_getElem_cons hlt.1
    obtain ⟨m, hm⟩ : ∃ m, 3 - n = m + 1 := ⟨2 - n, by omega⟩
    conv => whnf
    refine ⟨by omega, ?_⟩
    conv => whnf
    split
    · rename_i h48
      rw [hg] at h48
      conv => whnf
      refine ⟨by omega, ?_⟩
      conv => whnf
      split
      · rename_i h55
        rw [hg] at h55
        have ho : isOct s[n] = true := by
          simp only [isOct, decide_eq_true_eq, UInt8.le_iff_toNat_le]
          simp at h48 h55
          exact ⟨by show 48 ≤ _; omega, by show _ ≤ 55; omega⟩
        have hv : v < 64 := by
          have : (8 : Nat) ^ n ≤ 8 ^ 2 := Nat.pow_le_pow_right (by decide) (by omega)
          omega
        have hc7 : 48 ≤ s[n].toNat ∧ s[n].toNat ≤ 55 := by simp at h48 h55; omega
        have e8 : IntKind.wrap .u8 ((s[n].toNat : Int) - 48) = ((s[n].toNat - 48 : Nat) : Int) := by
          have : ((s[n].toNat : Int) - 48) = ((s[n].toNat - 48 : Nat) : Int) := by omega
          rw [this, wrap_u8 _ (by omega)]
        conv => whnf
        refine ⟨by decide, ?_⟩
        conv => whnf
        refine ⟨by omega, ?_⟩
        conv => whnf
        rw [hg]
        refine ⟨by rw [e8]; unfold inI64; omega, ?_⟩
        conv => whnf
        refine ⟨by unfold inI64; omega, ?_⟩
        rw [shl3 v hv _ ho]
        conv => whnf
        refine ⟨(v * 8 + (s[n].toNat - 48), n + 1), ⟨⟨by simp; omega, by simp; omega, ?_, ?_⟩, by simp; omega⟩, Wk.slots rfl ⟨rfl, rfl, rfl⟩⟩
        · simp only [Nat.pow_succ]; omega
        · rw [h4, hm, hd]
          have : 3 - (n + 1) = m := by omega
          simp only [octG, ho, if_true, this]
          simp; omega
      · rename_i h55
        rw [hg] at h55
        have ho : isOct s[n] = false := by
          simp only [isOct, decide_eq_false_iff_not, UInt8.le_iff_toNat_le]
          simp at h55
          intro h
          have : s[n].toNat ≤ 55 := h.2
          omega
        conv => whnf
        refine RetG.q ⟨rfl, ?_, rfl⟩
        rw [stop (by rw [hm, hd]; simp [octG, ho])]; rfl
    · rename_i h48
      rw [hg] at h48
      have ho : isOct s[n] = false := by
        simp only [isOct, decide_eq_false_iff_not, UInt8.le_iff_toNat_le]
        simp at h48
        intro h
        have : 48 ≤ s[n].toNat := h.1
        omega
      conv => whnf
      refine RetG.q ⟨rfl, ?_, rfl⟩
      rw [stop (by rw [hm, hd]; simp [octG, ho])]; rfl
  · rename_i hlt
    have hlt : s.length ≤ n ∨ 3 ≤ n := by simp at hlt; omega
    conv => whnf
    refine RetG.q ⟨rfl, ?_, rfl⟩
    rw [stop ?_]
    · rfl
    · rcases hlt with h | h
      · rw [List.drop_eq_nil_of_le h]
        cases (3 - n) <;> rfl
      · have : 3 - n = 0 := by omega
        rw [this]; rfl
end Ink.D

namespace Ink.D
open Go Go.Proofs
set_option maxRecDepth 100000
variable {E : Env} (hE : E.P = Tryz.prog)

def escC (c : UInt8) : List UInt8 :=
  if c = 110 then [10] else if c = 114 then [13] else if c = 116 then [9] else if c = 98 then [8] else if c = 102 then [12] else if c = 10 then [] else if c = 13 then [] else [c]

def escL (s : List UInt8) : List UInt8 × Nat :=
  let x := octalL s
  if 0 < x.2 then ([UInt8.ofNat x.1], x.2) else if List.isPrefixOf [13, 10] s then ([], 2) else match s with
    | [] => ([], 1)
    | c :: _ => (escC c, 1)

theorem escC_ix (c : UInt8) : (ix [110, 114, 116, 98, 102, 10, 13] c < 0 → escC c = [c]) ∧ (0 ≤ ix [110, 114, 116, 98, 102, 10, 13] c ∧ ix [110, 114, 116, 98, 102, 10, 13] c < 5 → escC c = [([10, 13, 9, 8, 12] : List UInt8).getD (ix [110, 114, 116, 98, 102, 10, 13] c).toNat 0]) ∧
    (5 ≤ ix [110, 114, 116, 98, 102, 10, 13] c → escC c = []) := by
  revert c
  refine u8all ?_
  decide +kernel

theorem wrap_ofNat (n : Nat) : IntKind.wrap .u8 (n : Int) = ((UInt8.ofNat n).toNat : Int) := by
  simp only [IntKind.wrap, IntKind.bits, IntKind.signed, Bool.false_and, Bool.false_eq_true, if_false]
  rw [UInt8.toNat_ofNat']
  omega

include hE
theorem escaped (bs s : List UInt8) (hs : bs.length + s.length < big) (h0 : s ≠ []) : BCalls E 239 [.ptr 1 0 0, .str s] [.bld 90 5 bs] fun r ks => r = .int .i64 (escL s).2 ∧ ks = [.bld 90 5 (bs ++ (escL s).1)] := by
  unfold big at hs
  refine b239 hE fun l => ?_
  conv => whnf
  refine CallG.e (octal hE s (by unfold big; omega)) ?_
  generalize hx : octalL s = x
  obtain ⟨v, n⟩ := x
  conv => whnf
  split
  · rename_i hn
    have hn : 0 < n := by simpa using hn
    have he : escL s = ([UInt8.ofNat v], n) := by simp [escL, hx, hn]
    conv => whnf
    rw [show ((v, n).1 : Int) = (v : Int) from rfl, wrap_ofNat]
    refine CallG.b [(1, 0)] (writeByte hE bs (UInt8.ofNat v) (by omega)) ⟨rfl, trivial⟩ ⟨.ptr 0 1 0 0 rfl, .same _ rfl, trivial⟩ (fun r ks' hq _ _ => ?_)
    obtain ⟨rfl, rfl⟩ := hq
    conv => whnf
    refine RetG.b (ks' := [.bld 90 5 (bs ++ [UInt8.ofNat v])]) rfl rfl rfl rfl rfl rfl ⟨?_, ?_⟩ <;> rw [he]
  · rename_i hn
    have hn : n = 0 := by simp at hn; omega
    conv => whnf
    refine CallG.e (hasPrefix hE s [13, 10] (by unfold big; omega) (by decide)) ?_
    conv => whnf
    split
    · rename_i hp
      have he : escL s = ([], 2) := by simp [escL, hx, hn, hp]
      conv => whnf
      refine RetG.b (ks' := [.bld 90 5 bs]) rfl rfl rfl rfl rfl rfl ⟨?_, ?_⟩ <;> rw [he]
      · rfl
      · simp
    · rename_i hp
      match s, h0, hs, hx, hp with
      | c :: r, h0, hs, hx, hp =>
        have he : escL (c :: r) = (escC c, 1) := by simp only [escL, hx, hn, hp]; simp
        obtain ⟨i1, i2, i3⟩ := escC_ix c
        conv => whnf
        refine ⟨by simp, ?_⟩
        conv => whnf
        refine CallG.e (index47 hE [110, 114, 116, 98, 102, 10, 13] c (by decide)) ?_
        generalize ix [110, 114, 116, 98, 102, 10, 13] c = j at *
        conv => whnf
        split
        · rename_i hj
          have hj : j < 0 := by simpa using hj
          conv => whnf
          refine ⟨by simp, ?_⟩
          conv => whnf
          refine CallG.b [(1, 0)] (writeByte hE bs c (by simp at hs; omega)) ⟨rfl, trivial⟩ ⟨.ptr 0 1 0 0 rfl, .same _ rfl, trivial⟩ (fun r ks' hq _ _ => ?_)
          obtain ⟨rfl, rfl⟩ := hq
          conv => whnf
          refine RetG.b (ks' := [.bld 90 5 (bs ++ [c])]) rfl rfl rfl rfl rfl rfl ⟨?_, ?_⟩ <;> rw [he]
          · rfl
          · rw [i1 hj]
        · rename_i hj
          have hj : 0 ≤ j := by simp at hj; omega
          conv => whnf
          split
          · rename_i hj5
            have hj5 : j < 5 := by simpa using hj5
            conv => whnf
            refine ⟨by simp; omega, ?_⟩
            conv => whnf
            refine CallG.b [(1, 0)] (writeByte hE bs (([10, 13, 9, 8, 12] : List UInt8).getD j.toNat 0) (by simp at hs; omega)) ⟨rfl, trivial⟩ ⟨.ptr 0 1 0 0 rfl, .same _ rfl, trivial⟩ (fun r ks' hq _ _ => ?_)
            obtain ⟨rfl, rfl⟩ := hq
            conv => whnf
            refine RetG.b (ks' := [.bld 90 5 (bs ++ [([10, 13, 9, 8, 12] : List UInt8).getD j.toNat 0])]) rfl rfl rfl rfl rfl rfl ⟨?_, ?_⟩ <;> rw [he]
            · rfl
            · rw [i2 ⟨hj, hj5⟩]
          · rename_i hj5
            have hj5 : 5 ≤ j := by simp at hj5; omega
            conv => whnf
            refine RetG.b (ks' := [.bld 90 5 bs]) rfl rfl rfl rfl rfl rfl ⟨?_, ?_⟩ <;> rw [he]
            · rfl
            · rw [i3 hj5]; simp
end Ink.D

namespace Ink.D
open Go Go.Proofs
set_option maxRecDepth 100000
variable {E : Env} (hE : E.P = Tryz.prog)

theorem escL_le (s : List UInt8) (h : s ≠ []) : 1 ≤ (escL s).2 ∧ (escL s).2 ≤ s.length ∧ (escL s).1.length ≤ 1 := by
  have h1 := octG_le 3 s 0
  unfold escL octalL
  simp only
  split
  · simp; omega
  · split
    · rename_i hp
      have := (List.isPrefixOf_iff_prefix.mp hp).length_le
      simp at this
      simp; omega
    · match s, h with
      | c :: r, _ =>
        refine ⟨Nat.le_refl _, by simp, ?_⟩
        unfold escC
        repeat' split
        all_goals simp

def textL (s : List UInt8) (d : Nat) : Option (List UInt8 × Nat) :=
  match s with
  | [] => none
  | c :: r =>
    if c = 92 then
      if r = [] then none else (textL (r.drop (escL r).2) d).map fun x => ((escL r).1 ++ x.1, 1 + (escL r).2 + x.2)
    else if c = 40 then (textL r (d + 1)).map fun x => (c :: x.1, 1 + x.2)
    else if c = 41 then
      match d with
      | 0 => some ([], 1)
      | d + 1 => (textL r d).map fun x => (c :: x.1, 1 + x.2)
    else if c = 13 then
      if List.isPrefixOf [13, 10] (c :: r) then (textL r d).map fun x => (x.1, 1 + x.2) else (textL r d).map fun x => (10 :: x.1, 1 + x.2)
    else (textL r d).map fun x => (c :: x.1, 1 + x.2)
termination_by s.length
decreasing_by all_goals (simp; try omega)

theorem textL_cons (c : UInt8) (r : List UInt8) (d : Nat) : textL (c :: r) d =
    if c = 92 then
      if r = [] then none else (textL (r.drop (escL r).2) d).map fun x => ((escL r).1 ++ x.1, 1 + (escL r).2 + x.2)
    else if c = 40 then (textL r (d + 1)).map fun x => (c :: x.1, 1 + x.2)
    else if c = 41 then
      match d with
      | 0 => some ([], 1)
      | d + 1 => (textL r d).map fun x => (c :: x.1, 1 + x.2)
    else if c = 13 then
      if List.isPrefixOf [13, 10] (c :: r) then (textL r d).map fun x => (x.1, 1 + x.2) else (textL r d).map fun x => (10 :: x.1, 1 + x.2)
    else (textL r d).map fun x => (c :: x.1, 1 + x.2) := by
  rw [textL.eq_def]

theorem textL_nil (d : Nat) : textL [] d = none := by rw [textL]

def textAV (k : Nat) (o : Option (List UInt8 × Nat)) : AV := match o with
  | some x => tkE (tk 3 0 x.1 false k (k + 1 + x.2 : Nat)) 0
  | none => tkE (tk 0 0 [] false 0 0) 4

def tkC (kind f : Int) (s : List UInt8) (whole : Bool) (from_ to : Int) : List AV := [.int .i64 kind, .int .i64 f, .str s, .bool whole, .int .i64 from_, .int .i64 to]

include hE
theorem text (s : List UInt8) (k : Nat) (hs : s.length < big) (hk : k < s.length) : PCalls E 203 [.str s, tk 0 0 [] false k 0] (· = textAV k (textL (s.drop (k + 1)) 0)) := by
  unfold big at hs
  refine p203 hE fun l => ?_
  conv => whnf
  refine ⟨by unfold inI64; omega, ?_⟩
  conv => whnf
  refine LoopG.s (fun x : Nat × Nat × List UInt8 => k < x.1 ∧ x.1 ≤ s.length ∧ x.2.1 ≤ x.1 ∧ x.2.2.length ≤ x.1 ∧ textL (s.drop (k + 1)) 0 = (textL (s.drop x.1) x.2.1).map fun y => (x.2.2 ++ y.1, x.1 - (k + 1) + y.2)) 68
    (fun x => [(0, .str s), (3, .ptr 1 0 0), (4, .ptr 2 0 0), (6, .ptr 3 0 0), (7, .int .i64 x.2.1), (8, .int .i64 x.1)])
    (fun x => [⟨0, true, .frame l⟩, ⟨0, true, .cells 138 (tkC 0 0 [] false k 0)⟩, ⟨0, true, .cells 138 (tkC 0 0 [] false 0 0)⟩, ⟨0, true, .bld 90 5 x.2.2⟩]) (fun x => s.length - x.1) (k + 1, 0, []) ⟨by simp, by simp; omega, by simp, by simp, by simp⟩ rfl ⟨rfl, rfl, rfl, rfl, rfl, rfl⟩ rfl ?_
  rintro ⟨at_, d, bs⟩ ⟨h1, h2, h3, h4, h5⟩
  simp only at h1 h2 h3 h4 h5
  dsimp only
  conv => whnf
  refine ⟨by omega, ?_⟩
  conv => whnf
  split
  · rename_i hlt
    have hlt : at_ < s.length := by simpa using hlt
    have hg := getD_at s at_ hlt
    have hd := List.drop_eq_getElem_cons hlt
    rw [hd] at h5
    have hnx : ∀ (d' : Nat) (b : List UInt8), textL (s[at_] :: s.drop (at_ + 1)) d = (textL (s.drop (at_ + 1)) d').map (fun x => (b ++ x.1, 1 + x.2)) → d' ≤ at_ + 1 → b.length ≤ 1 →
        ((k < at_ + 1 ∧ at_ + 1 ≤ s.length ∧ d' ≤ at_ + 1 ∧ (bs ++ b).length ≤ at_ + 1 ∧ textL (s.drop (k + 1)) 0 = (textL (s.drop (at_ + 1)) d').map fun y => ((bs ++ b) ++ y.1, at_ + 1 - (k + 1) + y.2)) ∧ s.length - (at_ + 1) < s.length - at_) := by
      intro d' b he hd' hb
      refine ⟨⟨by omega, by omega, hd', by simp; omega, ?_⟩, by omega⟩
      rw [h5, he, Option.map_map]
      congr 1
      funext x
      simp only [Function.comp_def, List.append_assoc]
      congr 1
      omega
    generalize hc : s[at_] = c at *
    conv => whnf
    refine ⟨by omega, ?_⟩
    rw [hg]
    conv => whnf
    split
    · rename_i h92
      have h92 : c = 92 := by simpa [zEq] using h92
      conv => whnf
      refine ⟨by unfold inI64; omega, ?_⟩
      conv => whnf
      refine ⟨by omega, ?_⟩
      conv => whnf
      split
      · rename_i he
        have he : at_ + 1 = s.length := by simp at he; omega
        conv => whnf
        refine RetG.drop rfl rfl rfl ⟨rfl, ?_, rfl⟩
        rw [h5, textL_cons, List.drop_eq_nil_of_le (by omega)]
        simp only [h92, if_true]
        rfl
      · rename_i he
        have he : at_ + 1 < s.length := by simp at he; omega
        conv => whnf
        refine ⟨by unfold inI64; omega, ?_⟩
        conv => whnf
        refine ⟨by omega, ?_⟩
        have e1 : ((at_ : Int) + 1).toNat = at_ + 1 := by omega
        have hne : s.drop (at_ + 1) ≠ [] := by simp; omega
        have hle := escL_le _ hne
        have hdl : (s.drop (at_ + 1)).length = s.length - (at_ + 1) := List.length_drop
        conv => whnf
        rw [e1]
        refine CallG.b [(3, 0)] (escaped hE bs (s.drop (at_ + 1)) (by unfold big; omega) hne) ⟨rfl, trivial⟩ ⟨.ptr 0 3 0 0 rfl, .same _ rfl, trivial⟩ (fun r ks' hq _ _ => ?_)
        obtain ⟨rfl, rfl⟩ := hq
        conv => whnf
        refine ⟨by unfold inI64; omega, ?_⟩
        conv => whnf
        refine ⟨by unfold inI64; omega, ?_⟩
        conv => whnf
        refine ⟨(at_ + 1 + (escL (s.drop (at_ + 1))).2, d, bs ++ (escL (s.drop (at_ + 1))).1), ⟨⟨by simp; omega, by simp; omega, by simp; omega, by simp; omega, ?_⟩, by simp; omega⟩, Wk.slots rfl ⟨rfl, rfl, rfl, rfl, rfl, ?_⟩⟩
        · rw [h5, textL_cons]
          simp only [h92, hne, if_true, if_false, List.drop_drop]
          rw [Option.map_map]
          congr 1
          funext x
          simp only [Function.comp_def, List.append_assoc]
          congr 1
          omega
        · refine congrArg (fun n => some (AV.int .i64 n)) ?_
          show (at_ : Int) + _ + 1 = _
          simp; omega
    · rename_i h92
      have h92 : c ≠ 92 := by simpa [zEq] using h92
      have hWB : ∀ b : UInt8, BCalls E 98 [.ptr 1 0 0, .int .u8 (b.toNat : Int)] [.bld 90 5 bs] fun r ks => r = .lit .nilIface ∧ ks = [.bld 90 5 (bs ++ [b])] := fun b => writeByte hE bs b (by omega)
      conv => whnf
      split
      · rename_i h40
        have h40 : c = 40 := by simpa [zEq] using h40
        conv => whnf
        refine ⟨by unfold inI64; omega, ?_⟩
        conv => whnf
        refine ⟨by omega, ?_⟩
        rw [hg]
        conv => whnf
        refine CallG.b [(3, 0)] (hWB c) ⟨rfl, trivial⟩ ⟨.ptr 0 3 0 0 rfl, .same _ rfl, trivial⟩ (fun r ks' hq _ _ => ?_)
        obtain ⟨rfl, rfl⟩ := hq
        conv => whnf
        refine ⟨by unfold inI64; omega, ?_⟩
        conv => whnf
        refine ⟨(at_ + 1, d + 1, bs ++ [c]), hnx (d + 1) [c] ?_ (by omega) (by simp), Wk.slots rfl ⟨rfl, rfl, rfl, rfl, rfl, rfl⟩⟩
        rw [textL_cons]; simp [h40]
      · rename_i h40
        have h40 : c ≠ 40 := by simpa [zEq] using h40
        conv => whnf
        split
        · rename_i h41
          have h41 : c = 41 := by simpa [zEq] using h41
          conv => whnf
          cases d with
          | zero =>
            conv => whnf
            refine CallG.b [(3, 0)] (string hE bs (by omega)) ⟨rfl, trivial⟩ ⟨.ptr 0 3 0 0 rfl, trivial⟩ (fun r ks' hq _ _ => ?_)
            obtain ⟨rfl, rfl⟩ := hq
            conv => whnf
            refine ⟨by unfold inI64; omega, ?_⟩
            conv => whnf
            refine RetG.drop rfl rfl rfl ⟨rfl, ?_, rfl⟩
            rw [h5, textL_cons]
            subst h41
            show AV.tup [tk 3 0 bs false k ((at_ : Int) + 1), _] = AV.tup [tk 3 0 (bs ++ []) false k ((k + 1 + (at_ - (k + 1) + 1) : Nat) : Int), _]
            rw [List.append_nil]
            have : ((at_ : Int) + 1) = ((k + 1 + (at_ - (k + 1) + 1) : Nat) : Int) := by omega
            rw [this]
          | succ d =>
            have hdd : decide (((d + 1 : Nat) : Int) = 0) = false := by simp; omega
            rw [hdd]
            conv => whnf
            refine ⟨by unfold inI64; omega, ?_⟩
            conv => whnf
            refine ⟨by omega, ?_⟩
            rw [hg]
            conv => whnf
            refine CallG.b [(3, 0)] (hWB c) ⟨rfl, trivial⟩ ⟨.ptr 0 3 0 0 rfl, .same _ rfl, trivial⟩ (fun r ks' hq _ _ => ?_)
            obtain ⟨rfl, rfl⟩ := hq
            conv => whnf
            refine ⟨by unfold inI64; omega, ?_⟩
            conv => whnf
            refine ⟨(at_ + 1, d, bs ++ [c]), hnx d [c] ?_ (by omega) (by simp), Wk.slots rfl ⟨rfl, rfl, rfl, rfl, ?_, rfl⟩⟩
            · rw [textL_cons]; simp [h41]
            · refine congrArg (fun n => some (AV.int .i64 n)) ?_
              show ((d + 1 : Nat) : Int) - 1 = (d : Int)
              omega
        · rename_i h41
          have h41 : c ≠ 41 := by simpa [zEq] using h41
          conv => whnf
          split
          · rename_i h13
            have h13 : c = 13 := by simpa [zEq] using h13
            conv => whnf
            refine ⟨by omega, ?_⟩
            have e1 : s.drop (at_ : Int).toNat = c :: s.drop (at_ + 1) := by rw [Int.toNat_natCast, hd]
            rw [e1]
            conv => whnf
            refine CallG.e (hasPrefix hE (c :: s.drop (at_ + 1)) [13, 10] (by unfold big; simp; omega) (by decide)) ?_
            cases hp : List.isPrefixOf [13, 10] (c :: s.drop (at_ + 1)) with
            | true =>
              conv => whnf
              refine ⟨by unfold inI64; omega, ?_⟩
              conv => whnf
              have hq := hnx d [] (by subst h13; rw [textL_cons]; simp [hp]) (by omega) (by simp)
              rw [List.append_nil] at hq
              exact ⟨(at_ + 1, d, bs), hq, Wk.slots rfl ⟨rfl, rfl, rfl, rfl, rfl, rfl⟩⟩
            | false =>
              conv => whnf
              refine CallG.b [(3, 0)] (hWB 10) ⟨rfl, trivial⟩ ⟨.ptr 0 3 0 0 rfl, .same _ rfl, trivial⟩ (fun r ks' hq _ _ => ?_)
              obtain ⟨rfl, rfl⟩ := hq
              conv => whnf
              refine ⟨by unfold inI64; omega, ?_⟩
              conv => whnf
              refine ⟨(at_ + 1, d, bs ++ [10]), hnx d [10] ?_ (by omega) (by simp), Wk.slots rfl ⟨rfl, rfl, rfl, rfl, rfl, rfl⟩⟩
              subst h13; rw [textL_cons]; simp [hp]
          · rename_i h13
            have h13 : c ≠ 13 := by simpa [zEq] using h13
            conv => whnf
            refine ⟨by omega, ?_⟩
            rw [hg]
            conv => whnf
            refine CallG.b [(3, 0)] (hWB c) ⟨rfl, trivial⟩ ⟨.ptr 0 3 0 0 rfl, .same _ rfl, trivial⟩ (fun r ks' hq _ _ => ?_)
            obtain ⟨rfl, rfl⟩ := hq
            conv => whnf
            refine ⟨by unfold inI64; omega, ?_⟩
            conv => whnf
            refine ⟨(at_ + 1, d, bs ++ [c]), hnx d [c] ?_ (by omega) (by simp), Wk.slots rfl ⟨rfl, rfl, rfl, rfl, rfl, rfl⟩⟩
            rw [textL_cons]; simp [h40, h41, h92, h13]
  · rename_i hlt
    have hlt : s.length ≤ at_ := by simpa using hlt
    conv => whnf
    refine RetG.drop rfl rfl rfl ⟨rfl, ?_, rfl⟩
    rw [h5, List.drop_eq_nil_of_le hlt, textL_nil]
    rfl
end Ink.D
