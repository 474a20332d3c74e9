import Derived.Test.YtipdgghfkdlfmaaDoorPCode
import Derived.Test.YtipdgghfkdlfmaaDoorProg
import Derived.Lib.Builder
import Derived.Lib.UnsafeStr
import Derived.Laws.Externs
import Derived.Deep.QuietTactic
import Derived.BigQuiet
import Derived.Lib.Bytealg
set_option linter.all false
namespace Ink.D
open Go Go.Proofs
set_option maxRecDepth 100000
theorem hm : Tryd.prog.follows .mixedOrders = true := by kernel_rfl
theorem c4 : cFn Tryd.prog (mtOf (Tryd.f4.body.getD .skip)) Tryd.f4 = some ac4 := by kernel_rfl
theorem a4 {E : Env} (hE : E.P = Tryd.prog) {args : List AV} {H : List Blk} {Q : AV → List Blk → Prop} (h : wpc E H ac4.body (retQ E H ac4.results Q) ⟨enterTm args ac4.ntmps, H⟩) : ACalls E 4 args H Q :=
  ACalls.enter (by rw [hE]; exact hm) (by rw [hE]; exact Tryd.func4) (by rw [hE]; exact c4) h
theorem b4 {E : Env} (hE : E.P = Tryd.prog) {args : List AV} {ks : List BK} {Q : AV → List BK → Prop} (h : ∀ l, wpc E (frmB l ks) ac4.body (retQ E (frmB l ks) ac4.results (RB l ks Q)) ⟨enterTm args ac4.ntmps, frmB l ks⟩) : BCalls E 4 args ks Q :=
  BCalls.mk fun l => a4 hE (h l)
theorem c5 : cFn Tryd.prog (mtOf (Tryd.f5.body.getD .skip)) Tryd.f5 = some ac5 := by kernel_rfl
theorem a5 {E : Env} (hE : E.P = Tryd.prog) {args : List AV} {H : List Blk} {Q : AV → List Blk → Prop} (h : wpc E H ac5.body (retQ E H ac5.results Q) ⟨enterTm args ac5.ntmps, H⟩) : ACalls E 5 args H Q :=
  ACalls.enter (by rw [hE]; exact hm) (by rw [hE]; exact Tryd.func5) (by rw [hE]; exact c5) h
theorem b5 {E : Env} (hE : E.P = Tryd.prog) {args : List AV} {ks : List BK} {Q : AV → List BK → Prop} (h : ∀ l, wpc E (frmB l ks) ac5.body (retQ E (frmB l ks) ac5.results (RB l ks Q)) ⟨enterTm args ac5.ntmps, frmB l ks⟩) : BCalls E 5 args ks Q :=
  BCalls.mk fun l => a5 hE (h l)
theorem c6 : cFn Tryd.prog (mtOf (Tryd.f6.body.getD .skip)) Tryd.f6 = some ac6 := by kernel_rfl
theorem a6 {E : Env} (hE : E.P = Tryd.prog) {args : List AV} {H : List Blk} {Q : AV → List Blk → Prop} (h : wpc E H ac6.body (retQ E H ac6.results Q) ⟨enterTm args ac6.ntmps, H⟩) : ACalls E 6 args H Q :=
  ACalls.enter (by rw [hE]; exact hm) (by rw [hE]; exact Tryd.func6) (by rw [hE]; exact c6) h
theorem b6 {E : Env} (hE : E.P = Tryd.prog) {args : List AV} {ks : List BK} {Q : AV → List BK → Prop} (h : ∀ l, wpc E (frmB l ks) ac6.body (retQ E (frmB l ks) ac6.results (RB l ks Q)) ⟨enterTm args ac6.ntmps, frmB l ks⟩) : BCalls E 6 args ks Q :=
  BCalls.mk fun l => a6 hE (h l)
theorem c7 : cFn Tryd.prog (mtOf (Tryd.f7.body.getD .skip)) Tryd.f7 = some ac7 := by kernel_rfl
theorem a7 {E : Env} (hE : E.P = Tryd.prog) {args : List AV} {H : List Blk} {Q : AV → List Blk → Prop} (h : wpc E H ac7.body (retQ E H ac7.results Q) ⟨enterTm args ac7.ntmps, H⟩) : ACalls E 7 args H Q :=
  ACalls.enter (by rw [hE]; exact hm) (by rw [hE]; exact Tryd.func7) (by rw [hE]; exact c7) h
theorem c9 : cFn Tryd.prog (mtOf (Tryd.f9.body.getD .skip)) Tryd.f9 = some ac9 := by kernel_rfl
theorem a9 {E : Env} (hE : E.P = Tryd.prog) {args : List AV} {H : List Blk} {Q : AV → List Blk → Prop} (h : wpc E H ac9.body (retQ E H ac9.results Q) ⟨enterTm args ac9.ntmps, H⟩) : ACalls E 9 args H Q :=
  ACalls.enter (by rw [hE]; exact hm) (by rw [hE]; exact Tryd.func9) (by rw [hE]; exact c9) h
theorem c20 : cFn Tryd.prog (mtOf (Tryd.f20.body.getD .skip)) Tryd.f20 = some ac20 := by kernel_rfl
theorem a20 {E : Env} (hE : E.P = Tryd.prog) {args : List AV} {H : List Blk} {Q : AV → List Blk → Prop} (h : wpc E H ac20.body (retQ E H ac20.results Q) ⟨enterTm args ac20.ntmps, H⟩) : ACalls E 20 args H Q :=
  ACalls.enter (by rw [hE]; exact hm) (by rw [hE]; exact Tryd.func20) (by rw [hE]; exact c20) h
theorem c22 : cFn Tryd.prog (mtOf (Tryd.f22.body.getD .skip)) Tryd.f22 = some ac22 := by kernel_rfl
theorem a22 {E : Env} (hE : E.P = Tryd.prog) {args : List AV} {H : List Blk} {Q : AV → List Blk → Prop} (h : wpc E H ac22.body (retQ E H ac22.results Q) ⟨enterTm args ac22.ntmps, H⟩) : ACalls E 22 args H Q :=
  ACalls.enter (by rw [hE]; exact hm) (by rw [hE]; exact Tryd.func22) (by rw [hE]; exact c22) h
theorem p22 {E : Env} (hE : E.P = Tryd.prog) {args : List AV} {Q : AV → Prop} (h : ∀ l, wpc E (frm l) ac22.body (retQ E (frm l) ac22.results fun r H' => hb 0 r = true ∧ Q r ∧ H' = frm l) ⟨enterTm args ac22.ntmps, frm l⟩) (hp : hbL 0 args = true := by rfl) : PCalls E 22 args Q :=
  PCalls.mk hp fun l => a22 hE (h l)
theorem c24 : cFn Tryd.prog (mtOf (Tryd.f24.body.getD .skip)) Tryd.f24 = some ac24 := by kernel_rfl
theorem a24 {E : Env} (hE : E.P = Tryd.prog) {args : List AV} {H : List Blk} {Q : AV → List Blk → Prop} (h : wpc E H ac24.body (retQ E H ac24.results Q) ⟨enterTm args ac24.ntmps, H⟩) : ACalls E 24 args H Q :=
  ACalls.enter (by rw [hE]; exact hm) (by rw [hE]; exact Tryd.func24) (by rw [hE]; exact c24) h
theorem p24 {E : Env} (hE : E.P = Tryd.prog) {args : List AV} {Q : AV → Prop} (h : ∀ l, wpc E (frm l) ac24.body (retQ E (frm l) ac24.results fun r H' => hb 0 r = true ∧ Q r ∧ H' = frm l) ⟨enterTm args ac24.ntmps, frm l⟩) (hp : hbL 0 args = true := by rfl) : PCalls E 24 args Q :=
  PCalls.mk hp fun l => a24 hE (h l)
theorem c26 : cFn Tryd.prog (mtOf (Tryd.f26.body.getD .skip)) Tryd.f26 = some ac26 := by kernel_rfl
theorem a26 {E : Env} (hE : E.P = Tryd.prog) {args : List AV} {H : List Blk} {Q : AV → List Blk → Prop} (h : wpc E H ac26.body (retQ E H ac26.results Q) ⟨enterTm args ac26.ntmps, H⟩) : ACalls E 26 args H Q :=
  ACalls.enter (by rw [hE]; exact hm) (by rw [hE]; exact Tryd.func26) (by rw [hE]; exact c26) h
theorem p26 {E : Env} (hE : E.P = Tryd.prog) {args : List AV} {Q : AV → Prop} (h : ∀ l, wpc E (frm l) ac26.body (retQ E (frm l) ac26.results fun r H' => hb 0 r = true ∧ Q r ∧ H' = frm l) ⟨enterTm args ac26.ntmps, frm l⟩) (hp : hbL 0 args = true := by rfl) : PCalls E 26 args Q :=
  PCalls.mk hp fun l => a26 hE (h l)
theorem c28 : cFn Tryd.prog (mtOf (Tryd.f28.body.getD .skip)) Tryd.f28 = some ac28 := by kernel_rfl
theorem a28 {E : Env} (hE : E.P = Tryd.prog) {args : List AV} {H : List Blk} {Q : AV → List Blk → Prop} (h : wpc E H ac28.body (retQ E H ac28.results Q) ⟨enterTm args ac28.ntmps, H⟩) : ACalls E 28 args H Q :=
  ACalls.enter (by rw [hE]; exact hm) (by rw [hE]; exact Tryd.func28) (by rw [hE]; exact c28) h
theorem p28 {E : Env} (hE : E.P = Tryd.prog) {args : List AV} {Q : AV → Prop} (h : ∀ l, wpc E (frm l) ac28.body (retQ E (frm l) ac28.results fun r H' => hb 0 r = true ∧ Q r ∧ H' = frm l) ⟨enterTm args ac28.ntmps, frm l⟩) (hp : hbL 0 args = true := by rfl) : PCalls E 28 args Q :=
  PCalls.mk hp fun l => a28 hE (h l)
theorem c45 : cFn Tryd.prog (mtOf (Tryd.f45.body.getD .skip)) Tryd.f45 = some ac45 := by kernel_rfl
theorem a45 {E : Env} (hE : E.P = Tryd.prog) {args : List AV} {H : List Blk} {Q : AV → List Blk → Prop} (h : wpc E H ac45.body (retQ E H ac45.results Q) ⟨enterTm args ac45.ntmps, H⟩) : ACalls E 45 args H Q :=
  ACalls.enter (by rw [hE]; exact hm) (by rw [hE]; exact Tryd.func45) (by rw [hE]; exact c45) h
theorem p45 {E : Env} (hE : E.P = Tryd.prog) {args : List AV} {Q : AV → Prop} (h : ∀ l, wpc E (frm l) ac45.body (retQ E (frm l) ac45.results fun r H' => hb 0 r = true ∧ Q r ∧ H' = frm l) ⟨enterTm args ac45.ntmps, frm l⟩) (hp : hbL 0 args = true := by rfl) : PCalls E 45 args Q :=
  PCalls.mk hp fun l => a45 hE (h l)
theorem c46 : cFn Tryd.prog (mtOf (Tryd.f46.body.getD .skip)) Tryd.f46 = some ac46 := by kernel_rfl
theorem a46 {E : Env} (hE : E.P = Tryd.prog) {args : List AV} {H : List Blk} {Q : AV → List Blk → Prop} (h : wpc E H ac46.body (retQ E H ac46.results Q) ⟨enterTm args ac46.ntmps, H⟩) : ACalls E 46 args H Q :=
  ACalls.enter (by rw [hE]; exact hm) (by rw [hE]; exact Tryd.func46) (by rw [hE]; exact c46) h
theorem c47 : cFn Tryd.prog (mtOf (Tryd.f47.body.getD .skip)) Tryd.f47 = some ac47 := by kernel_rfl
theorem a47 {E : Env} (hE : E.P = Tryd.prog) {args : List AV} {H : List Blk} {Q : AV → List Blk → Prop} (h : wpc E H ac47.body (retQ E H ac47.results Q) ⟨enterTm args ac47.ntmps, H⟩) : ACalls E 47 args H Q :=
  ACalls.enter (by rw [hE]; exact hm) (by rw [hE]; exact Tryd.func47) (by rw [hE]; exact c47) h
theorem p47 {E : Env} (hE : E.P = Tryd.prog) {args : List AV} {Q : AV → Prop} (h : ∀ l, wpc E (frm l) ac47.body (retQ E (frm l) ac47.results fun r H' => hb 0 r = true ∧ Q r ∧ H' = frm l) ⟨enterTm args ac47.ntmps, frm l⟩) (hp : hbL 0 args = true := by rfl) : PCalls E 47 args Q :=
  PCalls.mk hp fun l => a47 hE (h l)
theorem c48 : cFn Tryd.prog (mtOf (Tryd.f48.body.getD .skip)) Tryd.f48 = some ac48 := by kernel_rfl
theorem a48 {E : Env} (hE : E.P = Tryd.prog) {args : List AV} {H : List Blk} {Q : AV → List Blk → Prop} (h : wpc E H ac48.body (retQ E H ac48.results Q) ⟨enterTm args ac48.ntmps, H⟩) : ACalls E 48 args H Q :=
  ACalls.enter (by rw [hE]; exact hm) (by rw [hE]; exact Tryd.func48) (by rw [hE]; exact c48) h
theorem p48 {E : Env} (hE : E.P = Tryd.prog) {args : List AV} {Q : AV → Prop} (h : ∀ l, wpc E (frm l) ac48.body (retQ E (frm l) ac48.results fun r H' => hb 0 r = true ∧ Q r ∧ H' = frm l) ⟨enterTm args ac48.ntmps, frm l⟩) (hp : hbL 0 args = true := by rfl) : PCalls E 48 args Q :=
  PCalls.mk hp fun l => a48 hE (h l)
theorem c64 : cFn Tryd.prog (mtOf (Tryd.f64.body.getD .skip)) Tryd.f64 = some ac64 := by kernel_rfl
theorem a64 {E : Env} (hE : E.P = Tryd.prog) {args : List AV} {H : List Blk} {Q : AV → List Blk → Prop} (h : wpc E H ac64.body (retQ E H ac64.results Q) ⟨enterTm args ac64.ntmps, H⟩) : ACalls E 64 args H Q :=
  ACalls.enter (by rw [hE]; exact hm) (by rw [hE]; exact Tryd.func64) (by rw [hE]; exact c64) h
theorem p64 {E : Env} (hE : E.P = Tryd.prog) {args : List AV} {Q : AV → Prop} (h : ∀ l, wpc E (frm l) ac64.body (retQ E (frm l) ac64.results fun r H' => hb 0 r = true ∧ Q r ∧ H' = frm l) ⟨enterTm args ac64.ntmps, frm l⟩) (hp : hbL 0 args = true := by rfl) : PCalls E 64 args Q :=
  PCalls.mk hp fun l => a64 hE (h l)
theorem c65 : cFn Tryd.prog (mtOf (Tryd.f65.body.getD .skip)) Tryd.f65 = some ac65 := by kernel_rfl
theorem a65 {E : Env} (hE : E.P = Tryd.prog) {args : List AV} {H : List Blk} {Q : AV → List Blk → Prop} (h : wpc E H ac65.body (retQ E H ac65.results Q) ⟨enterTm args ac65.ntmps, H⟩) : ACalls E 65 args H Q :=
  ACalls.enter (by rw [hE]; exact hm) (by rw [hE]; exact Tryd.func65) (by rw [hE]; exact c65) h
theorem p65 {E : Env} (hE : E.P = Tryd.prog) {args : List AV} {Q : AV → Prop} (h : ∀ l, wpc E (frm l) ac65.body (retQ E (frm l) ac65.results fun r H' => hb 0 r = true ∧ Q r ∧ H' = frm l) ⟨enterTm args ac65.ntmps, frm l⟩) (hp : hbL 0 args = true := by rfl) : PCalls E 65 args Q :=
  PCalls.mk hp fun l => a65 hE (h l)
theorem c66 : cFn Tryd.prog (mtOf (Tryd.f66.body.getD .skip)) Tryd.f66 = some ac66 := by kernel_rfl
theorem a66 {E : Env} (hE : E.P = Tryd.prog) {args : List AV} {H : List Blk} {Q : AV → List Blk → Prop} (h : wpc E H ac66.body (retQ E H ac66.results Q) ⟨enterTm args ac66.ntmps, H⟩) : ACalls E 66 args H Q :=
  ACalls.enter (by rw [hE]; exact hm) (by rw [hE]; exact Tryd.func66) (by rw [hE]; exact c66) h
theorem p66 {E : Env} (hE : E.P = Tryd.prog) {args : List AV} {Q : AV → Prop} (h : ∀ l, wpc E (frm l) ac66.body (retQ E (frm l) ac66.results fun r H' => hb 0 r = true ∧ Q r ∧ H' = frm l) ⟨enterTm args ac66.ntmps, frm l⟩) (hp : hbL 0 args = true := by rfl) : PCalls E 66 args Q :=
  PCalls.mk hp fun l => a66 hE (h l)
theorem c67 : cFn Tryd.prog (mtOf (Tryd.f67.body.getD .skip)) Tryd.f67 = some ac67 := by kernel_rfl
theorem a67 {E : Env} (hE : E.P = Tryd.prog) {args : List AV} {H : List Blk} {Q : AV → List Blk → Prop} (h : wpc E H ac67.body (retQ E H ac67.results Q) ⟨enterTm args ac67.ntmps, H⟩) : ACalls E 67 args H Q :=
  ACalls.enter (by rw [hE]; exact hm) (by rw [hE]; exact Tryd.func67) (by rw [hE]; exact c67) h
theorem p67 {E : Env} (hE : E.P = Tryd.prog) {args : List AV} {Q : AV → Prop} (h : ∀ l, wpc E (frm l) ac67.body (retQ E (frm l) ac67.results fun r H' => hb 0 r = true ∧ Q r ∧ H' = frm l) ⟨enterTm args ac67.ntmps, frm l⟩) (hp : hbL 0 args = true := by rfl) : PCalls E 67 args Q :=
  PCalls.mk hp fun l => a67 hE (h l)
theorem c70 : cFn Tryd.prog (mtOf (Tryd.f70.body.getD .skip)) Tryd.f70 = some ac70 := by kernel_rfl
theorem a70 {E : Env} (hE : E.P = Tryd.prog) {args : List AV} {H : List Blk} {Q : AV → List Blk → Prop} (h : wpc E H ac70.body (retQ E H ac70.results Q) ⟨enterTm args ac70.ntmps, H⟩) : ACalls E 70 args H Q :=
  ACalls.enter (by rw [hE]; exact hm) (by rw [hE]; exact Tryd.func70) (by rw [hE]; exact c70) h
theorem c72 : cFn Tryd.prog (mtOf (Tryd.f72.body.getD .skip)) Tryd.f72 = some ac72 := by kernel_rfl
theorem a72 {E : Env} (hE : E.P = Tryd.prog) {args : List AV} {H : List Blk} {Q : AV → List Blk → Prop} (h : wpc E H ac72.body (retQ E H ac72.results Q) ⟨enterTm args ac72.ntmps, H⟩) : ACalls E 72 args H Q :=
  ACalls.enter (by rw [hE]; exact hm) (by rw [hE]; exact Tryd.func72) (by rw [hE]; exact c72) h
theorem c73 : cFn Tryd.prog (mtOf (Tryd.f73.body.getD .skip)) Tryd.f73 = some ac73 := by kernel_rfl
theorem a73 {E : Env} (hE : E.P = Tryd.prog) {args : List AV} {H : List Blk} {Q : AV → List Blk → Prop} (h : wpc E H ac73.body (retQ E H ac73.results Q) ⟨enterTm args ac73.ntmps, H⟩) : ACalls E 73 args H Q :=
  ACalls.enter (by rw [hE]; exact hm) (by rw [hE]; exact Tryd.func73) (by rw [hE]; exact c73) h
theorem p73 {E : Env} (hE : E.P = Tryd.prog) {args : List AV} {Q : AV → Prop} (h : ∀ l, wpc E (frm l) ac73.body (retQ E (frm l) ac73.results fun r H' => hb 0 r = true ∧ Q r ∧ H' = frm l) ⟨enterTm args ac73.ntmps, frm l⟩) (hp : hbL 0 args = true := by rfl) : PCalls E 73 args Q :=
  PCalls.mk hp fun l => a73 hE (h l)
theorem c84 : cFn Tryd.prog (mtOf (Tryd.f84.body.getD .skip)) Tryd.f84 = some ac84 := by kernel_rfl
theorem a84 {E : Env} (hE : E.P = Tryd.prog) {args : List AV} {H : List Blk} {Q : AV → List Blk → Prop} (h : wpc E H ac84.body (retQ E H ac84.results Q) ⟨enterTm args ac84.ntmps, H⟩) : ACalls E 84 args H Q :=
  ACalls.enter (by rw [hE]; exact hm) (by rw [hE]; exact Tryd.func84) (by rw [hE]; exact c84) h
theorem p84 {E : Env} (hE : E.P = Tryd.prog) {args : List AV} {Q : AV → Prop} (h : ∀ l, wpc E (frm l) ac84.body (retQ E (frm l) ac84.results fun r H' => hb 0 r = true ∧ Q r ∧ H' = frm l) ⟨enterTm args ac84.ntmps, frm l⟩) (hp : hbL 0 args = true := by rfl) : PCalls E 84 args Q :=
  PCalls.mk hp fun l => a84 hE (h l)
theorem c87 : cFn Tryd.prog (mtOf (Tryd.f87.body.getD .skip)) Tryd.f87 = some ac87 := by kernel_rfl
theorem a87 {E : Env} (hE : E.P = Tryd.prog) {args : List AV} {H : List Blk} {Q : AV → List Blk → Prop} (h : wpc E H ac87.body (retQ E H ac87.results Q) ⟨enterTm args ac87.ntmps, H⟩) : ACalls E 87 args H Q :=
  ACalls.enter (by rw [hE]; exact hm) (by rw [hE]; exact Tryd.func87) (by rw [hE]; exact c87) h
theorem b87 {E : Env} (hE : E.P = Tryd.prog) {args : List AV} {ks : List BK} {Q : AV → List BK → Prop} (h : ∀ l, wpc E (frmB l ks) ac87.body (retQ E (frmB l ks) ac87.results (RB l ks Q)) ⟨enterTm args ac87.ntmps, frmB l ks⟩) : BCalls E 87 args ks Q :=
  BCalls.mk fun l => a87 hE (h l)
theorem c94 : cFn Tryd.prog (mtOf (Tryd.f94.body.getD .skip)) Tryd.f94 = some ac94 := by kernel_rfl
theorem a94 {E : Env} (hE : E.P = Tryd.prog) {args : List AV} {H : List Blk} {Q : AV → List Blk → Prop} (h : wpc E H ac94.body (retQ E H ac94.results Q) ⟨enterTm args ac94.ntmps, H⟩) : ACalls E 94 args H Q :=
  ACalls.enter (by rw [hE]; exact hm) (by rw [hE]; exact Tryd.func94) (by rw [hE]; exact c94) h
theorem b94 {E : Env} (hE : E.P = Tryd.prog) {args : List AV} {ks : List BK} {Q : AV → List BK → Prop} (h : ∀ l, wpc E (frmB l ks) ac94.body (retQ E (frmB l ks) ac94.results (RB l ks Q)) ⟨enterTm args ac94.ntmps, frmB l ks⟩) : BCalls E 94 args ks Q :=
  BCalls.mk fun l => a94 hE (h l)
theorem c98 : cFn Tryd.prog (mtOf (Tryd.f98.body.getD .skip)) Tryd.f98 = some ac98 := by kernel_rfl
theorem a98 {E : Env} (hE : E.P = Tryd.prog) {args : List AV} {H : List Blk} {Q : AV → List Blk → Prop} (h : wpc E H ac98.body (retQ E H ac98.results Q) ⟨enterTm args ac98.ntmps, H⟩) : ACalls E 98 args H Q :=
  ACalls.enter (by rw [hE]; exact hm) (by rw [hE]; exact Tryd.func98) (by rw [hE]; exact c98) h
theorem p98 {E : Env} (hE : E.P = Tryd.prog) {args : List AV} {Q : AV → Prop} (h : ∀ l, wpc E (frm l) ac98.body (retQ E (frm l) ac98.results fun r H' => hb 0 r = true ∧ Q r ∧ H' = frm l) ⟨enterTm args ac98.ntmps, frm l⟩) (hp : hbL 0 args = true := by rfl) : PCalls E 98 args Q :=
  PCalls.mk hp fun l => a98 hE (h l)
theorem c99 : cFn Tryd.prog (mtOf (Tryd.f99.body.getD .skip)) Tryd.f99 = some ac99 := by kernel_rfl
theorem a99 {E : Env} (hE : E.P = Tryd.prog) {args : List AV} {H : List Blk} {Q : AV → List Blk → Prop} (h : wpc E H ac99.body (retQ E H ac99.results Q) ⟨enterTm args ac99.ntmps, H⟩) : ACalls E 99 args H Q :=
  ACalls.enter (by rw [hE]; exact hm) (by rw [hE]; exact Tryd.func99) (by rw [hE]; exact c99) h
theorem p99 {E : Env} (hE : E.P = Tryd.prog) {args : List AV} {Q : AV → Prop} (h : ∀ l, wpc E (frm l) ac99.body (retQ E (frm l) ac99.results fun r H' => hb 0 r = true ∧ Q r ∧ H' = frm l) ⟨enterTm args ac99.ntmps, frm l⟩) (hp : hbL 0 args = true := by rfl) : PCalls E 99 args Q :=
  PCalls.mk hp fun l => a99 hE (h l)
theorem c100 : cFn Tryd.prog (mtOf (Tryd.f100.body.getD .skip)) Tryd.f100 = some ac100 := by kernel_rfl
theorem a100 {E : Env} (hE : E.P = Tryd.prog) {args : List AV} {H : List Blk} {Q : AV → List Blk → Prop} (h : wpc E H ac100.body (retQ E H ac100.results Q) ⟨enterTm args ac100.ntmps, H⟩) : ACalls E 100 args H Q :=
  ACalls.enter (by rw [hE]; exact hm) (by rw [hE]; exact Tryd.func100) (by rw [hE]; exact c100) h
theorem b100 {E : Env} (hE : E.P = Tryd.prog) {args : List AV} {ks : List BK} {Q : AV → List BK → Prop} (h : ∀ l, wpc E (frmB l ks) ac100.body (retQ E (frmB l ks) ac100.results (RB l ks Q)) ⟨enterTm args ac100.ntmps, frmB l ks⟩) : BCalls E 100 args ks Q :=
  BCalls.mk fun l => a100 hE (h l)
theorem c101 : cFn Tryd.prog (mtOf (Tryd.f101.body.getD .skip)) Tryd.f101 = some ac101 := by kernel_rfl
theorem a101 {E : Env} (hE : E.P = Tryd.prog) {args : List AV} {H : List Blk} {Q : AV → List Blk → Prop} (h : wpc E H ac101.body (retQ E H ac101.results Q) ⟨enterTm args ac101.ntmps, H⟩) : ACalls E 101 args H Q :=
  ACalls.enter (by rw [hE]; exact hm) (by rw [hE]; exact Tryd.func101) (by rw [hE]; exact c101) h
theorem p101 {E : Env} (hE : E.P = Tryd.prog) {args : List AV} {Q : AV → Prop} (h : ∀ l, wpc E (frm l) ac101.body (retQ E (frm l) ac101.results fun r H' => hb 0 r = true ∧ Q r ∧ H' = frm l) ⟨enterTm args ac101.ntmps, frm l⟩) (hp : hbL 0 args = true := by rfl) : PCalls E 101 args Q :=
  PCalls.mk hp fun l => a101 hE (h l)
theorem c120 : cFn Tryd.prog (mtOf (Tryd.f120.body.getD .skip)) Tryd.f120 = some ac120 := by kernel_rfl
theorem a120 {E : Env} (hE : E.P = Tryd.prog) {args : List AV} {H : List Blk} {Q : AV → List Blk → Prop} (h : wpc E H ac120.body (retQ E H ac120.results Q) ⟨enterTm args ac120.ntmps, H⟩) : ACalls E 120 args H Q :=
  ACalls.enter (by rw [hE]; exact hm) (by rw [hE]; exact Tryd.func120) (by rw [hE]; exact c120) h
theorem p120 {E : Env} (hE : E.P = Tryd.prog) {args : List AV} {Q : AV → Prop} (h : ∀ l, wpc E (frm l) ac120.body (retQ E (frm l) ac120.results fun r H' => hb 0 r = true ∧ Q r ∧ H' = frm l) ⟨enterTm args ac120.ntmps, frm l⟩) (hp : hbL 0 args = true := by rfl) : PCalls E 120 args Q :=
  PCalls.mk hp fun l => a120 hE (h l)
theorem c125 : cFn Tryd.prog (mtOf (Tryd.f125.body.getD .skip)) Tryd.f125 = some ac125 := by kernel_rfl
theorem a125 {E : Env} (hE : E.P = Tryd.prog) {args : List AV} {H : List Blk} {Q : AV → List Blk → Prop} (h : wpc E H ac125.body (retQ E H ac125.results Q) ⟨enterTm args ac125.ntmps, H⟩) : ACalls E 125 args H Q :=
  ACalls.enter (by rw [hE]; exact hm) (by rw [hE]; exact Tryd.func125) (by rw [hE]; exact c125) h
theorem p125 {E : Env} (hE : E.P = Tryd.prog) {args : List AV} {Q : AV → Prop} (h : ∀ l, wpc E (frm l) ac125.body (retQ E (frm l) ac125.results fun r H' => hb 0 r = true ∧ Q r ∧ H' = frm l) ⟨enterTm args ac125.ntmps, frm l⟩) (hp : hbL 0 args = true := by rfl) : PCalls E 125 args Q :=
  PCalls.mk hp fun l => a125 hE (h l)
theorem c126 : cFn Tryd.prog (mtOf (Tryd.f126.body.getD .skip)) Tryd.f126 = some ac126 := by kernel_rfl
theorem a126 {E : Env} (hE : E.P = Tryd.prog) {args : List AV} {H : List Blk} {Q : AV → List Blk → Prop} (h : wpc E H ac126.body (retQ E H ac126.results Q) ⟨enterTm args ac126.ntmps, H⟩) : ACalls E 126 args H Q :=
  ACalls.enter (by rw [hE]; exact hm) (by rw [hE]; exact Tryd.func126) (by rw [hE]; exact c126) h
theorem p126 {E : Env} (hE : E.P = Tryd.prog) {args : List AV} {Q : AV → Prop} (h : ∀ l, wpc E (frm l) ac126.body (retQ E (frm l) ac126.results fun r H' => hb 0 r = true ∧ Q r ∧ H' = frm l) ⟨enterTm args ac126.ntmps, frm l⟩) (hp : hbL 0 args = true := by rfl) : PCalls E 126 args Q :=
  PCalls.mk hp fun l => a126 hE (h l)
theorem c127 : cFn Tryd.prog (mtOf (Tryd.f127.body.getD .skip)) Tryd.f127 = some ac127 := by kernel_rfl
theorem a127 {E : Env} (hE : E.P = Tryd.prog) {args : List AV} {H : List Blk} {Q : AV → List Blk → Prop} (h : wpc E H ac127.body (retQ E H ac127.results Q) ⟨enterTm args ac127.ntmps, H⟩) : ACalls E 127 args H Q :=
  ACalls.enter (by rw [hE]; exact hm) (by rw [hE]; exact Tryd.func127) (by rw [hE]; exact c127) h
theorem p127 {E : Env} (hE : E.P = Tryd.prog) {args : List AV} {Q : AV → Prop} (h : ∀ l, wpc E (frm l) ac127.body (retQ E (frm l) ac127.results fun r H' => hb 0 r = true ∧ Q r ∧ H' = frm l) ⟨enterTm args ac127.ntmps, frm l⟩) (hp : hbL 0 args = true := by rfl) : PCalls E 127 args Q :=
  PCalls.mk hp fun l => a127 hE (h l)
theorem c139 : cFn Tryd.prog (mtOf (Tryd.f139.body.getD .skip)) Tryd.f139 = some ac139 := by kernel_rfl
theorem a139 {E : Env} (hE : E.P = Tryd.prog) {args : List AV} {H : List Blk} {Q : AV → List Blk → Prop} (h : wpc E H ac139.body (retQ E H ac139.results Q) ⟨enterTm args ac139.ntmps, H⟩) : ACalls E 139 args H Q :=
  ACalls.enter (by rw [hE]; exact hm) (by rw [hE]; exact Tryd.func139) (by rw [hE]; exact c139) h
theorem p139 {E : Env} (hE : E.P = Tryd.prog) {args : List AV} {Q : AV → Prop} (h : ∀ l, wpc E (frm l) ac139.body (retQ E (frm l) ac139.results fun r H' => hb 0 r = true ∧ Q r ∧ H' = frm l) ⟨enterTm args ac139.ntmps, frm l⟩) (hp : hbL 0 args = true := by rfl) : PCalls E 139 args Q :=
  PCalls.mk hp fun l => a139 hE (h l)
theorem c148 : cFn Tryd.prog (mtOf (Tryd.f148.body.getD .skip)) Tryd.f148 = some ac148 := by kernel_rfl
theorem a148 {E : Env} (hE : E.P = Tryd.prog) {args : List AV} {H : List Blk} {Q : AV → List Blk → Prop} (h : wpc E H ac148.body (retQ E H ac148.results Q) ⟨enterTm args ac148.ntmps, H⟩) : ACalls E 148 args H Q :=
  ACalls.enter (by rw [hE]; exact hm) (by rw [hE]; exact Tryd.func148) (by rw [hE]; exact c148) h
theorem p148 {E : Env} (hE : E.P = Tryd.prog) {args : List AV} {Q : AV → Prop} (h : ∀ l, wpc E (frm l) ac148.body (retQ E (frm l) ac148.results fun r H' => hb 0 r = true ∧ Q r ∧ H' = frm l) ⟨enterTm args ac148.ntmps, frm l⟩) (hp : hbL 0 args = true := by rfl) : PCalls E 148 args Q :=
  PCalls.mk hp fun l => a148 hE (h l)
theorem c151 : cFn Tryd.prog (mtOf (Tryd.f151.body.getD .skip)) Tryd.f151 = some ac151 := by kernel_rfl
theorem a151 {E : Env} (hE : E.P = Tryd.prog) {args : List AV} {H : List Blk} {Q : AV → List Blk → Prop} (h : wpc E H ac151.body (retQ E H ac151.results Q) ⟨enterTm args ac151.ntmps, H⟩) : ACalls E 151 args H Q :=
  ACalls.enter (by rw [hE]; exact hm) (by rw [hE]; exact Tryd.func151) (by rw [hE]; exact c151) h
theorem p151 {E : Env} (hE : E.P = Tryd.prog) {args : List AV} {Q : AV → Prop} (h : ∀ l, wpc E (frm l) ac151.body (retQ E (frm l) ac151.results fun r H' => hb 0 r = true ∧ Q r ∧ H' = frm l) ⟨enterTm args ac151.ntmps, frm l⟩) (hp : hbL 0 args = true := by rfl) : PCalls E 151 args Q :=
  PCalls.mk hp fun l => a151 hE (h l)
end Ink.D

namespace Ink.D
open Go Go.Proofs Go.RowKit
set_option maxRecDepth 100000
set_option linter.unusedVariables false

theorem tB : Tryd.prog.underlying 84 = some (.pointer 86) := by kernel_rfl
theorem tU : Tryd.prog.underlying 146 = some .unsafePointer := by kernel_rfl
theorem iB : ∃ j, Tryd.prog.info? 86 = some j ∧ j.size = 2 := ⟨(Tryd.prog.info? 86).get (by kernel_rfl), by kernel_rfl, by kernel_rfl⟩
theorem lB : liesAt Tryd.prog Tryd.prog.depth 86 (2 / Tryd.prog.cellsOf 86) 0 86 1 = true := by kernel_rfl

theorem t41 : Tryd.prog.underlying 41 = some (.slice 5) := by kernel_rfl
theorem t119 : Tryd.prog.underlying 119 = some (.pointer 5) := by kernel_rfl
theorem t3 : Tryd.prog.underlying 3 = some (.int .i64) := by kernel_rfl
theorem t9 : Tryd.prog.underlying 9 = some .string := by kernel_rfl
theorem t5 : Tryd.prog.underlying 5 = some (.int .u8) := by kernel_rfl
theorem cells5 : Tryd.prog.cellsOf 5 = 1 := by kernel_rfl

theorem liesAt_off {P : Program} {e : TypeId} (hc : P.cellsOf e = 1) (count off n : Nat) (hn : off + n ≤ count) : liesAt P P.depth e count off e n = true := by
  have hd : P.depth = (2 * (P.types.size + Made.depth) + 1) + 1 := rfl
  rw [hd]
  simp only [liesAt, Bool.or_eq_true]
  left
  rw [hd]
  simp [rowAt, hc, hn, sameLayout, Nat.mod_one]

theorem unsafeString_off {P : Program} (w : World) (pt it ty e : TypeId) (hp : P.underlying pt = some (.pointer e)) (hc : P.cellsOf e = 1) (g base cells : Nat) (hsh : w.shape? g = some (e, cells)) (l : List UInt8) (h0 : l ≠ []) (hn : base + l.length ≤ cells) (h63 : l.length ≤ 9223372036854775807)
    (hcell : ∀ (j : Nat) (x : UInt8), l[j]? = some x → w.cell? ((⟨g, base, none⟩ : Addr).add j) = some (.int .u8 x.toNat)) :
    (Builtin.unsafeString_ #[pt, it] ty #[.pointer (some ⟨g, base, none⟩), .int .i64 l.length]).run P w = .ok (.string ⟨l.toArray⟩) (w.freeze ⟨g, base, none⟩ l.length) := by
  have hl : l.length ≠ 0 := by simpa using h0
  have hlb := Lib.run_loadBytes (P := P) w l ⟨g, base, none⟩ .empty hcell
  have hlies := liesAt_off (P := P) hc (cells / P.cellsOf e) base l.length (by rw [hc]; simpa using hn)
  have h63' : ¬ (9223372036854775807 : Int) < (l.length : Int) := by omega
  have hdef : Builtin.unsafeString_ #[pt, it] ty #[.pointer (some ⟨g, base, none⟩), .int .i64 l.length] =
      (do
        let n ← asInt (.int .i64 l.length)
        if n < 0 then runtimePanic (.error "unsafe.String: len out of range")
        if n > IntKind.i64.max then unsupported (.unsafePointer "String: a length above the largest int")
        if n = 0 then pure (.string .empty)
        else if ← variablesAt ⟨g, base, none⟩ (← elemOf pt) n.toNat then do
          let s ← loadBytes ⟨g, base, none⟩ .empty n.toNat
          freeze ⟨g, base, none⟩ n.toNat
          pure (.string s)
        else unsupported (.unsafePointer "String: not so many bytes at ptr")) := rfl
  rw [hdef]
  have hmax : IntKind.i64.max = 9223372036854775807 := rfl
  have hneg : ¬ (l.length : Int) < 0 := by omega
  simp [asInt, asIntOf, hmax, h63', hneg, hl, variablesAt, hsh, elemOf, run_underlying hp, hlies, hlb]

set_option maxHeartbeats 1000000 in
theorem cc_used (b : Nat) (w : World) (h0 : w.cell? ⟨b, 0, none⟩ = some (.pointer (some ⟨b, 0, none⟩))) :
    Calls Tryd.prog 114 #[.pointer (some ⟨b, 0, none⟩)] w fun e w' => e = .returned (.tuple #[]) ∧ w' = w := by
  obtain ⟨j, hj, _⟩ := iB
  have u84 := run_underlying tB
  have u146 := run_underlying tU
  go_enter Tryd.func114, Tryd.ntmps114
  go_wp2
  rw [Lib.run_neq_ptr_same w _ tB hj]
  go_wp2
  go_end0
  exact ⟨rfl, rfl⟩

set_option maxHeartbeats 1000000 in
theorem cc_fresh (b : Nat) (w : World) (h0 : w.cell? ⟨b, 0, none⟩ = some (.pointer none)) (hsh : w.shape? b = some (86, 2)) (hfz : w.frozen? ⟨b, 0, none⟩ = false) :
    Calls Tryd.prog 114 #[.pointer (some ⟨b, 0, none⟩)] w fun e w' => e = .returned (.tuple #[]) ∧ w' = w.setCell ⟨b, 0, none⟩ (.pointer (some ⟨b, 0, none⟩)) := by
  obtain ⟨j, hj, hjs⟩ := iB
  have u84 := run_underlying tB
  have u146 := run_underlying tU
  go_enter Tryd.func114, Tryd.ntmps114
  go_wp2
  rw [Lib.run_to_unsafe w ⟨b, 0, none⟩ tB tU hj (by rw [hjs]; decide) hsh (Nat.zero_lt_succ 1)]
  simp only [Result.andThen]
  rw [Oper.upon_value]
  go_wp2
  rw [run_callFunc_extern Tryd.func135 (by kernel_rfl) (by kernel_rfl) (by kernel_rfl) (e := Extern.AbiNoEscape.same) (by kernel_rfl)]
  rw [Lib.run_noEscape]
  simp only [Result.andThen]
  rw [Oper.upon_value]
  go_wp2
  rw [Lib.run_from_unsafe w ⟨b, 0, none⟩ tU tB hj hsh lB]
  simp only [Result.andThen]
  rw [Oper.upon_value]
  go_wp2
  go_end0
  exact ⟨rfl, rfl⟩

set_option maxHeartbeats 2000000 in
theorem str_nil (b : Nat) (w : World) (hbk : w.cell? ⟨b, 1, none⟩ = some (.slice none 0 0)) :
    Calls Tryd.prog 63 #[.pointer (some ⟨b, 0, none⟩)] w fun e w' => e = .returned (.string ⟨#[]⟩) ∧ w' = w.drew := by
  have hUS0 := fun w q => Lib.run_unsafeString_none (P := Tryd.prog) (w := w) 119 3 9 q
  have c1 : w.drew.cell? ⟨b, 1, none⟩ = some (.slice none 0 0) := hbk
  have hSD : (Builtin.unsafeSliceData_ #[41] 119 #[.slice none 0 0]).run Tryd.prog w.drew = .ok (.pointer none) w.drew := rfl
  have u84 := run_underlying tB
  have u41 := run_underlying t41
  have u119 := run_underlying t119
  have u3 := run_underlying t3
  have u9 := run_underlying t9
  have u5 := run_underlying t5
  go_enter Tryd.func63, Tryd.ntmps63
  go_wp2
  go_region
  all_goals (go_wp2; go_ret; exact ⟨rfl, rfl⟩)

set_option maxHeartbeats 2000000 in
theorem str_room (b : Nat) (w : World) (g base cap : Nat) (hc0 : cap ≠ 0) (hbk : w.cell? ⟨b, 1, none⟩ = some (.slice (some ⟨g, base, none⟩) 0 cap)) :
    Calls Tryd.prog 63 #[.pointer (some ⟨b, 0, none⟩)] w fun e w' => e = .returned (.string ⟨#[]⟩) ∧ w' = w.drew := by
  have hUS0 := fun w q => Lib.run_unsafeString_none (P := Tryd.prog) (w := w) 119 3 9 q
  have c1 : w.drew.cell? ⟨b, 1, none⟩ = some (.slice (some ⟨g, base, none⟩) 0 cap) := hbk
  have hSD : (Builtin.unsafeSliceData_ #[41] 119 #[.slice (some ⟨g, base, none⟩) 0 cap]).run Tryd.prog w.drew = .ok (.pointer (some ⟨g, base, none⟩)) w.drew :=
    Lib.run_unsafeSliceData_row _ _ _ _ _ _ hc0
  clear hc0
  have u84 := run_underlying tB
  have u41 := run_underlying t41
  have u119 := run_underlying t119
  have u3 := run_underlying t3
  have u9 := run_underlying t9
  have u5 := run_underlying t5
  go_enter Tryd.func63, Tryd.ntmps63
  go_wp2
  go_region
  all_goals (go_wp2; go_ret; exact ⟨rfl, rfl⟩)

set_option maxHeartbeats 2000000 in
theorem str_full (b : Nat) (w : World) (g base cap : Nat) (l : List UInt8) (h0 : l ≠ []) (hlc : l.length ≤ cap) (n : Nat) (hsh : w.shape? g = some (5, n)) (hcn : base + l.length ≤ n) (h63 : l.length ≤ 9223372036854775807) (hcell : ∀ (j : Nat) (x : UInt8), l[j]? = some x → w.cell? ((⟨g, base, none⟩ : Addr).add j) = some (.int .u8 x.toNat)) (hbk : w.cell? ⟨b, 1, none⟩ = some (.slice (some ⟨g, base, none⟩) l.length cap)) :
    Calls Tryd.prog 63 #[.pointer (some ⟨b, 0, none⟩)] w fun e w' => e = .returned (.string ⟨l.toArray⟩) ∧ w' = (w.drew.freeze ⟨g, base, none⟩ l.length) := by
  have hUS0 := fun w q => Lib.run_unsafeString_none (P := Tryd.prog) (w := w) 119 3 9 q
  have c1 : w.drew.cell? ⟨b, 1, none⟩ = some (.slice (some ⟨g, base, none⟩) l.length cap) := hbk
  have hl0 : l.length ≠ 0 := by simpa using h0
  have hSD : (Builtin.unsafeSliceData_ #[41] 119 #[.slice (some ⟨g, base, none⟩) l.length cap]).run Tryd.prog w.drew = .ok (.pointer (some ⟨g, base, none⟩)) w.drew :=
    Lib.run_unsafeSliceData_row _ _ _ _ _ _ (by omega)
  have hUS : (Builtin.unsafeString_ #[119, 3] 9 #[.pointer (some ⟨g, base, none⟩), .int .i64 l.length]).run Tryd.prog w.drew = .ok (.string ⟨l.toArray⟩) (w.drew.freeze ⟨g, base, none⟩ l.length) := by
    exact unsafeString_off w.drew 119 3 9 5 t119 cells5 g base n hsh l h0 hcn h63 hcell
  clear hcell hsh hcn h63 hlc hl0 h0
  have u84 := run_underlying tB
  have u41 := run_underlying t41
  have u119 := run_underlying t119
  have u3 := run_underlying t3
  have u9 := run_underlying t9
  have u5 := run_underlying t5
  go_enter Tryd.func63, Tryd.ntmps63
  go_wp2
  go_region
  all_goals (go_wp2; go_ret; exact ⟨rfl, rfl⟩)
end Ink.D

namespace Ink.D
open Go Go.Proofs Go.RowKit
set_option maxRecDepth 100000
set_option linter.unusedVariables false
theorem z5 : ∀ w, (Go.sizeOf 5).run Tryd.prog w = .ok 1 w := fun w => by kernel_rfl
theorem ap_empty (a : Option Addr) (cap : Nat) (w : World) : (Builtin.append_ #[41, 9] 41 #[.slice a 0 cap, .string ⟨#[]⟩]).run Tryd.prog w = .ok (.slice a 0 cap) w := by
  have u41 := run_underlying (P := Tryd.prog) t41
  have u9 := run_underlying (P := Tryd.prog) t9
  have e : ({ data := #[] } : ByteArray).size = 0 := rfl
  simp [Builtin.append_, u41, u9, z5, Builtin.lenOf, Builtin.firstCells, e]
  cases a <;> simp [storeCells]

set_option maxHeartbeats 400000 in
theorem ws_empty (b : Nat) (w w1 : World) (v : Value) (hcc : Calls Tryd.prog 114 #[.pointer (some ⟨b, 0, none⟩)] w fun e w' => e = .returned (.tuple #[]) ∧ w' = w1)
    (h1 : w1.cell? ⟨b, 1, none⟩ = some v) (hv : ∃ a cap, v = .slice a 0 cap) (hfz : w1.frozen? ⟨b, 1, none⟩ = false) :
    Calls Tryd.prog 87 #[.pointer (some ⟨b, 0, none⟩), .string ⟨#[]⟩] w fun e w' => e = .returned (.tuple #[.int .i64 0, .nilIface]) ∧ w' = w1.setCell ⟨b, 1, none⟩ v := by
  obtain ⟨a, cap, rfl⟩ := hv
  have hA := ap_empty a cap w1
  have u84 := run_underlying tB
  have u41 := run_underlying t41
  have u119 := run_underlying t119
  have u3 := run_underlying t3
  have u9 := run_underlying t9
  have u5 := run_underlying t5
  go_enter Tryd.func87, Tryd.ntmps87
  go_wp2_with (go_at_call 114; refine hcc.mono ?_; rintro e w' ⟨rfl, rfl⟩)
  all_goals (simp only [Sem.run_pure, Result.andThen]; rw [Oper.upon_value]; go_wp2; refine bodyPost_ret (results_tmp2 rfl _ _ _) rfl ?_; exact ⟨rfl, rfl⟩)
end Ink.D

namespace Ink.D
open Go Go.Proofs
set_option maxRecDepth 100000
variable {E : Env} (hE : E.P = Tryd.prog)

theorem enter_of {P : Program} {f : FuncId} {fn : Func} {c : Code} (hf : P.funcs[f]? = some fn) (hb : fn.body = some c) (hn : (fn.name == "runtime.NumGoroutine") = false) (vs : Array Value) (w : World) :
    (callFunc f vs).run P w = .ok (.enter f vs) w := by
  have hn' : ¬ fn.name = "runtime.NumGoroutine" := by simpa using hn
  simp [callFunc, hf, hb, hn']

include hE
theorem bldP : BldP E.P 86 5 114 63 := by
  rw [hE]
  exact {
    ecc := enter_of Tryd.func114 rfl (by decide)
    estr := enter_of Tryd.func63 rfl (by decide)
    used := cc_used
    fresh := cc_fresh
    nil := str_nil
    room := fun b w g base cap hc h => str_room b w g base cap hc h
    full := fun b w g base cap l h0 hlc n hsh hcn h63 hcell h => str_full b w g base cap l h0 hlc n hsh hcn h63 hcell h }

theorem writeByte (bs : List UInt8) (c : UInt8) (hlen : bs.length < 1000000000) : BCalls E 94 [.ptr 1 0 0, .int .u8 (c.toNat : Int)] [.bld 86 5 bs] fun r ks => r = .lit .nilIface ∧ ks = [.bld 86 5 (bs ++ [c])] := by
  refine b94 hE fun l => ?_
  conv => whnf
  refine CallG.a (((bldP hE).check l bs).mono fun r H' ⟨h1, h2⟩ => ?_)
  subst h1 h2
  conv => whnf
  refine ⟨⟨rfl, rfl, rfl, by simp [bytesAV_length], by decide, ?_⟩, ?_⟩
  · simp [chunkK]; omega
  conv => whnf
  refine RetG.fold (bs := bs ++ [c]) (v2 := 1) (by simp) rfl ?_ ⟨rfl, rfl⟩
  simp [bytesAV_append, chunkK, takeK, appK, dropK, AOpd.ev, bytesAV_take]
  rfl

theorem writeString (bs s : List UInt8) (hlen : bs.length + s.length < 1000000000) : BCalls E 87 [.ptr 1 0 0, .str s] [.bld 86 5 bs] fun r ks => r = .tup [.int .i64 s.length, .lit .nilIface] ∧ ks = [.bld 86 5 (bs ++ s)] := by
  by_cases h0 : bs ++ s = []
  · obtain ⟨rfl, rfl⟩ := List.append_eq_nil_iff.mp h0
    refine BldP.empty (bldP hE) (f := 87) ?_ ?_
    · rw [hE]; exact enter_of Tryd.func87 rfl (by decide)
    · rw [hE]; exact ws_empty
  · refine b87 hE fun l => ?_
    conv => whnf
    refine CallG.a (((bldP hE).check l bs).mono fun r H' ⟨h1, h2⟩ => ?_)
    subst h1 h2
    conv => whnf
    refine ⟨⟨trivial, rfl, rfl, by simp [bytesAV_length], by decide, by omega⟩, ?_⟩
    conv => whnf
    refine ⟨by omega, ?_⟩
    conv => whnf
    refine RetG.fold (bs := bs ++ s) (v2 := 1) h0 rfl ?_ ⟨rfl, rfl⟩
    simp [bytesAV_append, chunkK, takeK, appK, dropK, AOpd.ev, bytesAV_take]

theorem string (bs : List UInt8) (hlen : bs.length < 1000000000) : BCalls E 63 [.ptr 1 0 0] [.bld 86 5 bs] fun r ks => r = .str bs ∧ ks = [.cells 86 []] :=
  (bldP hE).string (by omega)
end Ink.D

namespace Ink.D
open Go Go.Proofs
set_option maxRecDepth 100000
variable {E : Env} (hE : E.P = Tryd.prog)
abbrev big : Nat := 100000000
def u8 (c : UInt8) : AV := .int .u8 (c.toNat : Int)
abbrev ix := Lib.indexByte

theorem ix_le (l : List UInt8) (c : UInt8) : -1 ≤ ix l c ∧ ix l c < l.length := by
  induction l with
  | nil => simp [ix, Lib.indexByte]
  | cons b l ih =>
    simp only [ix, Lib.indexByte] at *
    split
    · simp
    · split
      · simp; omega
      · simp at *; omega

include hE
theorem index106 (s : List UInt8) (c : UInt8) (hs : s.length < big) : PCalls E 106 [.str s, .int .u8 (c.toNat : Int)] (· = .int .i64 (ix s c)) := by
  unfold PCalls
  intro H
  unfold ACalls
  intro cx vs hH hr hg hl
  obtain ⟨v, u, rfl, hv, hu⟩ : ∃ v u, vs = [v, u] ∧ VR cx (.str s) v ∧ VR cx (.int .u8 (c.toNat : Int)) u := by
    match vs, hl.len with
    | [v, u], _ => exact ⟨v, u, rfl, hl.at_ 0 _ v rfl rfl, hl.at_ 1 _ u rfl rfl⟩
  cases hv with
  | str _ st hst =>
    cases hu with
    | int _ _ hk =>
      refine .inr ⟨.int .i64 (ix s c), cx.w, ?_, cx, _, rfl, hr, Ext.refl cx, .int _ _ ?_, rfl, hH⟩
      · rw [hE]
        rw [run_callFunc_indexByte Tryd.func106 (by decide) rfl (by decide) rfl, Lib.run_indexByteString, hst]
        simp [Result.andThen, ix]
      · have := ix_le s c
        unfold big at hs
        constructor
        · show (-9223372036854775808 : Int) ≤ _; omega
        · show _ ≤ (9223372036854775807 : Int); omega

theorem index73 (s : List UInt8) (c : UInt8) (hs : s.length < big) : PCalls E 73 [.str s, .int .u8 (c.toNat : Int)] (· = .int .i64 (ix s c)) := by
  refine p73 hE fun l => ?_
  conv => whnf
  refine CallG.e (index106 hE s c hs) ?_
  conv => whnf
  exact RetG.q ⟨rfl, rfl, rfl⟩

theorem index47 (s : List UInt8) (c : UInt8) (hs : s.length < big) : PCalls E 47 [.str s, .int .u8 (c.toNat : Int)] (· = .int .i64 (ix s c)) := by
  refine p47 hE fun l => ?_
  conv => whnf
  refine CallG.e (index73 hE s c hs) ?_
  conv => whnf
  exact RetG.q ⟨rfl, rfl, rfl⟩

omit hE in
theorem ix_mem (l : List UInt8) (c : UInt8) : 0 ≤ ix l c ↔ c ∈ l := by
  induction l with
  | nil => simp [ix, Lib.indexByte]
  | cons b l ih =>
    have := ix_le l c
    simp only [ix, Lib.indexByte] at *
    by_cases h : b = c
    · simp [h]
    · have h' : ¬ c = b := fun e => h e.symm
      simp only [beq_iff_eq, h, if_false, List.mem_cons, h', false_or, ← ih]
      split <;> omega

omit hE in
def isWhite (c : UInt8) : Bool := c == 0 || c == 9 || c == 10 || c == 12 || c == 13 || c == 32
def isDelim (c : UInt8) : Bool := decide (c ∈ ([40, 41, 60, 62, 91, 93, 123, 125, 47, 37] : List UInt8))
def isReg (c : UInt8) : Bool := !isWhite c && !isDelim c

theorem white (c : UInt8) : PCalls E 22 [.int .u8 (c.toNat : Int)] (· = .bool (isWhite c)) := by
  refine p22 hE fun l => ?_
  repeat' ((conv => whnf); split)
  all_goals
    conv => whnf
    refine RetG.q ⟨rfl, ?_, rfl⟩
    simp_all [isWhite, zEq, zEq0]

theorem delim (c : UInt8) : PCalls E 24 [.int .u8 (c.toNat : Int)] (· = .bool (isDelim c)) := by
  refine p24 hE fun l => ?_
  conv => whnf
  refine CallG.e (index47 hE _ c (by decide)) ?_
  conv => whnf
  refine RetG.q ⟨rfl, ?_, rfl⟩
  simp only [isDelim, ix_mem]

theorem regular (c : UInt8) : PCalls E 48 [.int .u8 (c.toNat : Int)] (· = .bool (isReg c)) := by
  refine p48 hE fun l => ?_
  conv => whnf
  refine CallG.e (white hE c) ?_
  conv => whnf
  cases hw : isWhite c
  · conv => whnf
    refine CallG.e (delim hE c) ?_
    conv => whnf
    refine RetG.q ⟨rfl, ?_, rfl⟩
    simp [isReg, hw]
  · conv => whnf
    refine RetG.q ⟨rfl, ?_, rfl⟩
    simp [isReg, hw]

omit hE in
/-- the place behind bytes of which something is so -/
def whileL (p : UInt8 → Bool) (s : List UInt8) (k : Nat) : Nat := k + ((s.drop k).takeWhile p).length

omit hE in
theorem whileL_lt {p : UInt8 → Bool} {s : List UInt8} {k : Nat} (h : k < s.length) (hp : p s[k] = true) : whileL p s k = whileL p s (k + 1) := by
  unfold whileL
  rw [List.drop_eq_getElem_cons h, List.takeWhile_cons_of_pos hp]
  simp; omega
omit hE in
theorem whileL_st {p : UInt8 → Bool} {s : List UInt8} {k : Nat} (h : k < s.length) (hp : ¬ p s[k] = true) : whileL p s k = k := by
  unfold whileL
  rw [List.drop_eq_getElem_cons h, List.takeWhile_cons_of_neg hp]
  simp
omit hE in
theorem whileL_ge {p : UInt8 → Bool} {s : List UInt8} {k : Nat} (h : s.length ≤ k) : whileL p s k = k := by
  unfold whileL
  rw [List.drop_eq_nil_of_le h]
  simp
omit hE in
theorem whileL_le (p : UInt8 → Bool) (s : List UInt8) (k : Nat) (h : k ≤ s.length) : k ≤ whileL p s k ∧ whileL p s k ≤ s.length := by
  unfold whileL
  have := (List.takeWhile_sublist p (l := s.drop k)).length_le
  simp at this
  omega

theorem while_ (s : List UInt8) (k : Nat) (f : Nat) (p : UInt8 → Bool) (hs : s.length < big) (hk : k ≤ s.length)
    (hp : ∀ c : UInt8, PCalls E f [.int .u8 (c.toNat : Int)] (· = .bool (p c))) : PCalls E 45 [.str s, .int .i64 k, .fn (.func f) [] []] (· = .int .i64 (whileL p s k)) := by
  unfold big at hs
  refine p45 hE fun l => ?_
  conv => whnf
  refine LoopG.s (fun x : Nat => x ≤ s.length ∧ whileL p s x = whileL p s k) 21 (fun x => [(0, .str s), (1, .int .i64 x), (2, .fn (.func f) [] [])]) (fun _ => frm l) (fun x => s.length - x) k ⟨hk, rfl⟩ rfl ⟨rfl, rfl, rfl⟩ rfl ?_
  rintro x ⟨h1, h2⟩
  conv => whnf
  refine ⟨by omega, ?_⟩
  conv => whnf
  split
  · rename_i hlt
    have hlt : x < s.length := by simpa using hlt
    have hg : s.getD (x : Int).toNat 0 = s[x] := by simp [hlt]
    conv => whnf
    refine ⟨by omega, ?_⟩
    conv => whnf
    refine CallG.e (hp _) ?_
    conv => whnf
    split
    · rename_i hc
      conv => whnf
      refine ⟨by unfold inI64; omega, ?_⟩
      conv => whnf
      refine ⟨x + 1, ⟨⟨hlt, ?_⟩, by omega⟩, Wk.slots rfl ⟨rfl, rfl, rfl⟩⟩
      rw [hg] at hc
      rw [← h2, whileL_lt hlt hc]
    · rename_i hc
      conv => whnf
      rw [hg] at hc
      refine RetG.q ⟨rfl, ?_, rfl⟩
      rw [← h2, whileL_st hlt (by simp [hc])]
  · rename_i hlt
    conv => whnf
    refine RetG.q ⟨rfl, ?_, rfl⟩
    rw [← h2, whileL_ge (by simpa using hlt)]
end Ink.D

namespace Ink.D
open Go Go.Proofs
set_option maxRecDepth 100000
variable {E : Env} (hE : E.P = Tryd.prog)

def notEol (c : UInt8) : Bool := c != 10 && c != 13

/-- how many bytes white and comments are; are we in a comment? -/
def skip : List UInt8 → Bool → Nat
  | [], _ => 0
  | c :: r, true => if notEol c then 1 + skip r true else 1 + skip r false
  | c :: r, false => if isWhite c then 1 + skip r false else if c = 37 then 1 + skip r true else 0

theorem u8neg (c : UInt8) (n : Nat) (h : n < 256) : decide ((c.toNat : Int) ≠ (no_index (OfNat.ofNat n) : Int)) = (c != (OfNat.ofNat n : UInt8)) := by
  rw [Bool.eq_iff_iff]
  simp [zEq c n h]

include hE
end Ink.D

namespace Ink.D
open Go Go.Proofs
set_option maxRecDepth 100000
variable {E : Env} (hE : E.P = Tryd.prog)

theorem getD_at (l : List UInt8) (x : Nat) (h : x < l.length) : l.getD (x : Int).toNat 0 = l[x] := by simp [h]

include hE
end Ink.D

namespace Ink.D
open Go Go.Proofs
set_option maxRecDepth 100000
variable {E : Env} (hE : E.P = Tryd.prog)

theorem u8all {p : UInt8 → Prop} (h : ∀ n, n < 256 → p (UInt8.ofNat n)) (c : UInt8) : p c := by
  have := h c.toNat c.toNat_lt
  simpa using this

/-- a digit of sixteen -/
def hexN (c : UInt8) : Option UInt8 :=
  if 48 ≤ c ∧ c ≤ 57 then some (c - 48) else if 97 ≤ c ∧ c ≤ 102 then some (c - 87) else if 65 ≤ c ∧ c ≤ 70 then some (c - 55) else none

def digAV (o : Option UInt8) : AV := .tup [.int .u8 (((o.getD 0).toNat : Nat) : Int), .bool o.isSome]

theorem tup2 {k : IntKind} {a b : Int} {c d : Bool} (h1 : a = b) (h2 : c = d) : AV.tup [.int k a, .bool c] = AV.tup [.int k b, .bool d] := by rw [h1, h2]

include hE
theorem digit (c : UInt8) : PCalls E 101 [.int .u8 (c.toNat : Int)] (· = digAV (hexN c)) := by
  refine p101 hE fun l => ?_
  repeat' ((conv => whnf); split)
  all_goals
    conv => whnf
    refine RetG.q ⟨rfl, ?_, rfl⟩
    refine tup2 ?_ ?_
    all_goals
      rename_i h
      clear hE
      revert c
      refine u8all ?_
      decide +kernel

omit hE in
theorem wrap_u8 (n : Nat) (h : n < 256) : IntKind.wrap .u8 (n : Int) = n := by
  simp only [IntKind.wrap, IntKind.bits, IntKind.signed, Bool.false_and, Bool.false_eq_true, if_false]
  exact Int.emod_eq_of_lt (by omega) (by omega)

omit hE in
theorem or_u8 (a b : UInt8) : bits .or .u8 (a.toNat : Int) (b.toNat : Int) = ((a ||| b).toNat : Int) := by
  have e : ∀ x : UInt8, BitVec.ofInt 8 (x.toNat : Int) = x.toBitVec := fun x => by
    apply BitVec.eq_of_toNat_eq
    simp
  show IntKind.wrap .u8 ((BitVec.ofInt 8 (a.toNat : Int) ||| BitVec.ofInt 8 (b.toNat : Int)).toNat : Int) = _
  rw [e a, e b]
  exact wrap_u8 _ (a ||| b).toNat_lt

omit hE in
theorem shl4_u8 (a : UInt8) : IntKind.wrap .u8 ((a.toNat : Int) * 2 ^ (min (4 : Int).toNat (IntKind.bits .u8))) = ((a <<< 4).toNat : Int) := by
  revert a
  refine u8all ?_
  decide +kernel

/-- the byte of two digits -/
def octV (s : List UInt8) : Option UInt8 :=
  match s with
  | a :: b :: _ => match hexN a, hexN b with
    | some x, some y => some (x <<< 4 ||| y)
    | _, _ => none
  | _ => none

omit hE in
def octQ (s : List UInt8) (r : AV) : Prop := ∃ v : UInt8, r = .tup [.int .u8 (v.toNat : Int), .bool (octV s).isSome] ∧ ∀ x, octV s = some x → v = x

theorem octet (s : List UInt8) (hs : s.length < big) : PCalls E 126 [.str s] (octQ s) := by
  unfold big at hs
  refine p126 hE fun l => ?_
  conv => whnf
  refine ⟨by omega, ?_⟩
  conv => whnf
  match s, hs with
  | [], hs =>
    conv => whnf
    exact RetG.q ⟨rfl, ⟨0, rfl, fun x h => by cases h⟩, rfl⟩
  | [a], hs =>
    conv => whnf
    exact RetG.q ⟨rfl, ⟨0, rfl, fun x h => by cases h⟩, rfl⟩
  | a :: b :: r, hs =>
    have h2 : decide (((a :: b :: r).length : Int) < 2) = false := by simp; omega
    rw [h2]
    conv => whnf
    refine ⟨by simp; omega, ?_⟩
    conv => whnf
    refine CallG.e (digit hE _) ?_
    conv => whnf
    refine ⟨by simp; omega, ?_⟩
    conv => whnf
    refine CallG.e (digit hE _) ?_
    conv => whnf
    refine ⟨by decide, ?_⟩
    have e0 : (a :: b :: r).getD (Int.toNat 0) 0 = a := rfl
    have e1 : (a :: b :: r).getD (Int.toNat 1) 0 = b := rfl
    rw [e0, e1, shl4_u8]
    conv => whnf
    rw [or_u8]
    cases ha : hexN a with
    | none =>
      conv => whnf
      exact RetG.q ⟨rfl, ⟨_, tup2 rfl (by simp [octV, ha]), fun x h => by simp [octV, ha] at h⟩, rfl⟩
    | some x =>
      conv => whnf
      refine RetG.q ⟨rfl, ⟨_, tup2 rfl (by cases hb : hexN b <;> simp [octV, ha, hb]), fun y h => ?_⟩, rfl⟩
      cases hb : hexN b with
      | none => simp [octV, ha, hb] at h
      | some z => simp [octV, ha, hb] at h; simp [h]

/-! strings -/
theorem hasPrefix98 (s t : List UInt8) (hs : s.length < big) (ht : t.length < big) : PCalls E 98 [.str s, .str t] (· = .bool (t.isPrefixOf s)) := by
  unfold big at hs ht
  refine p98 hE fun l => ?_
  conv => whnf
  refine ⟨by omega, ?_⟩
  conv => whnf
  refine ⟨by omega, ?_⟩
  conv => whnf
  split
  · rename_i h
    have h : t.length ≤ s.length := by simp at h; omega
    conv => whnf
    refine ⟨by omega, ?_⟩
    conv => whnf
    refine ⟨by omega, ?_⟩
    conv => whnf
    refine RetG.q ⟨rfl, congrArg AV.bool ?_, rfl⟩
    rw [Bool.eq_iff_iff]
    simp only [decide_eq_true_eq, List.isPrefixOf_iff_prefix, List.prefix_iff_eq_take]
    exact eq_comm
  · rename_i h
    have h : ¬ t.length ≤ s.length := by simp at h; omega
    conv => whnf
    refine RetG.q ⟨rfl, congrArg AV.bool ?_, rfl⟩
    rw [eq_comm, Bool.eq_false_iff, ne_eq, List.isPrefixOf_iff_prefix]
    exact fun hp => h hp.length_le

theorem hasPrefix (s t : List UInt8) (hs : s.length < big) (ht : t.length < big) : PCalls E 64 [.str s, .str t] (· = .bool (t.isPrefixOf s)) := by
  refine p64 hE fun l => ?_
  conv => whnf
  refine CallG.e (hasPrefix98 hE s t hs ht) ?_
  conv => whnf
  exact RetG.q ⟨rfl, rfl, rfl⟩

/-- strings.Index of one byte -/
theorem index151 (s : List UInt8) (c : UInt8) (hs : s.length < big) : PCalls E 151 [.str s, .str [c]] (· = .int .i64 (ix s c)) := by
  refine p151 hE fun l => ?_
  conv => whnf
  refine ⟨by simp, ?_⟩
  conv => whnf
  split
  · rename_i h
    have h : [c] = s := by simpa using h
    conv => whnf
    refine RetG.q ⟨rfl, ?_, rfl⟩
    rw [← h]; simp [ix, Lib.indexByte]
  · conv => whnf
    refine ⟨by simp, ?_⟩
    conv => whnf
    refine CallG.e (index73 hE s c hs) ?_
    conv => whnf
    exact RetG.q ⟨rfl, rfl, rfl⟩

/-- cut at a byte -/
def cutL (s : List UInt8) (c : UInt8) : List UInt8 × List UInt8 × Bool :=
  match s with
  | [] => ([], [], false)
  | b :: r => if b = c then ([], r, true) else let (x, y, z) := cutL r c; (b :: x, y, z)

omit hE in
theorem cutL_ix (s : List UInt8) (c : UInt8) : (0 ≤ ix s c → cutL s c = (s.take (ix s c).toNat, s.drop ((ix s c).toNat + 1), true)) ∧ (¬ 0 ≤ ix s c → cutL s c = (s, [], false)) := by
  induction s with
  | nil => simp [ix, Lib.indexByte, cutL]
  | cons b r ih =>
    have := ix_le r c
    simp only [ix, Lib.indexByte, cutL] at *
    by_cases h : b = c
    · simp [h]
    · simp only [h, beq_iff_eq, if_false]
      by_cases h0 : 0 ≤ Lib.indexByte r c
      · have hne : ¬ Lib.indexByte r c = -1 := by omega
        have e : (Lib.indexByte r c + 1).toNat = (Lib.indexByte r c).toNat + 1 := by omega
        simp only [hne, if_false, e, ih.1 h0, List.take_succ_cons, List.drop_succ_cons]
        exact ⟨fun _ => trivial, fun hn => (hn (by omega)).elim⟩
      · have hne : Lib.indexByte r c = -1 := by omega
        simp only [hne, if_true, ih.2 h0]
        exact ⟨fun hn => by omega, fun _ => trivial⟩

def cutAV (x : List UInt8 × List UInt8 × Bool) : AV := .tup [.str x.1, .str x.2.1, .bool x.2.2]

theorem cut148 (s : List UInt8) (c : UInt8) (hs : s.length < big) : PCalls E 148 [.str s, .str [c]] (· = cutAV (cutL s c)) := by
  refine p148 hE fun l => ?_
  conv => whnf
  refine CallG.e (index151 hE s c hs) ?_
  have hx := ix_le s c
  have hc := cutL_ix s c
  conv => whnf
  split
  · rename_i h
    have h : 0 ≤ ix s c := by simpa using h
    conv => whnf
    refine ⟨by omega, ?_⟩
    conv => whnf
    refine ⟨by simp, ?_⟩
    conv => whnf
    refine ⟨by unfold inI64; unfold big at hs; simp; omega, ?_⟩
    conv => whnf
    refine ⟨by simp; omega, ?_⟩
    conv => whnf
    refine RetG.q ⟨rfl, ?_, rfl⟩
    rw [hc.1 h]
    have e : (ix s c + ([c].length : Int)).toNat = (ix s c).toNat + 1 := by simp; omega
    simp only [cutAV, e]
  · rename_i h
    have h : ¬ 0 ≤ ix s c := by simpa using h
    conv => whnf
    refine RetG.q ⟨rfl, ?_, rfl⟩
    rw [hc.2 h]; rfl

theorem cut (s : List UInt8) (c : UInt8) (hs : s.length < big) : PCalls E 125 [.str s, .str [c]] (· = cutAV (cutL s c)) := by
  refine p125 hE fun l => ?_
  conv => whnf
  refine CallG.e (cut148 hE s c hs) ?_
  conv => whnf
  exact RetG.q ⟨rfl, rfl, rfl⟩

omit hE in
/-- the name that bytes are -/
def namedL (s : List UInt8) : Option (List UInt8) :=
  match s with
  | [] => some []
  | c :: r => if c = 35 then match octV r with
      | some b => (namedL (r.drop 2)).map (b :: ·)
      | none => none
    else (namedL r).map (c :: ·)
termination_by s.length
decreasing_by all_goals (simp; try omega)

omit hE in
theorem namedL_cut (s : List UInt8) : namedL s = match cutL s 35 with
    | (a, b, z) => if z then match octV b with
        | some x => (namedL (b.drop 2)).map (fun t => a ++ x :: t)
        | none => none
      else some a := by
  induction s with
  | nil => simp [namedL, cutL]
  | cons c r ih =>
    rw [namedL, cutL]
    by_cases h : c = 35
    · simp only [h, if_true]
      cases octV r with
      | none => rfl
      | some x => simp
    · simp only [h, if_false]
      rw [ih]
      obtain ⟨a, b, z⟩ := cutL r 35
      cases z with
      | false => simp
      | true =>
        simp only [if_true]
        cases octV b with
        | none => rfl
        | some x => simp [Function.comp_def]

omit hE in
theorem cutL_len (s : List UInt8) (c : UInt8) : (cutL s c).1.length + (cutL s c).2.1.length + (if (cutL s c).2.2 then 1 else 0) = s.length := by
  induction s with
  | nil => simp [cutL]
  | cons b r ih =>
    rw [cutL]
    by_cases h : b = c
    · simp [h]
    · simp only [h, if_false, List.length_cons]
      generalize cutL r c = q at ih
      obtain ⟨x, y, z⟩ := q
      simp only at ih
      simp only [List.length_cons]; omega

def nmAV (o : Option (List UInt8)) : AV := match o with
  | some t => .tup [.str t, .int .i64 0]
  | none => .tup [.str [], .int .i64 3]

theorem named (s : List UInt8) (hs : s.length < big) : PCalls E 99 [.str s] (· = nmAV (namedL s)) := by
  unfold big at hs
  refine p99 hE fun l => ?_
  conv => whnf
  refine LoopG.s (fun x : List UInt8 × List UInt8 => x.1.length + x.2.length ≤ s.length ∧ namedL s = (namedL x.1).map (x.2 ++ ·)) 32 (fun x => [(0, .str x.1), (4, .ptr 1 0 0)]) (fun x => [⟨0, true, .frame l⟩, ⟨0, true, .bld 86 5 x.2⟩]) (fun x => x.1.length) (s, []) ⟨by simp, by simp⟩ rfl ⟨rfl, rfl⟩ rfl ?_
  rintro ⟨t, bs⟩ ⟨h1, h2⟩
  simp only at h1 h2
  conv => whnf
  refine CallG.e (cut hE t 35 (by unfold big; omega)) ?_
  have hc := namedL_cut t
  have hl := cutL_len t 35
  generalize cutL t 35 = q at hc hl
  obtain ⟨a, b, z⟩ := q
  simp only at hc hl
  conv => whnf
  refine CallG.b [(1, 0)] (writeString hE bs a (by omega)) ⟨rfl, trivial⟩ ⟨.ptr 0 1 0 0 rfl, .same _ rfl, trivial⟩ (fun r ks' hq _ _ => ?_)
  obtain ⟨rfl, rfl⟩ := hq
  conv => whnf
  cases z with
  | false =>
    conv => whnf
    refine CallG.b [(1, 0)] (string hE (bs ++ a) (by simp; omega)) ⟨rfl, trivial⟩ ⟨.ptr 0 1 0 0 rfl, trivial⟩ (fun r ks' hq _ _ => ?_)
    obtain ⟨rfl, rfl⟩ := hq
    conv => whnf
    refine RetG.drop rfl rfl rfl ⟨rfl, ?_, rfl⟩
    rw [h2, hc]; rfl
  | true =>
    simp only [if_true] at hc
    have hl : a.length + b.length + 1 = t.length := by simpa using hl
    conv => whnf
    refine CallG.p (octet hE b (by unfold big; omega)) (fun r hq => ?_)
    obtain ⟨v, rfl, hv⟩ := hq
    conv => whnf
    cases ho : octV b with
    | none =>
      conv => whnf
      refine RetG.drop rfl rfl rfl ⟨rfl, ?_, rfl⟩
      rw [h2, hc, ho]; rfl
    | some x =>
      have hv := hv x ho
      subst hv
      conv => whnf
      refine CallG.b [(1, 0)] (writeByte hE (bs ++ a) v (by simp; omega)) ⟨rfl, trivial⟩ ⟨.ptr 0 1 0 0 rfl, .same _ rfl, trivial⟩ (fun r ks' hq _ _ => ?_)
      obtain ⟨rfl, rfl⟩ := hq
      have hb : 2 ≤ b.length := by
        match b, ho with
        | _ :: _ :: _, _ => simp
      conv => whnf
      refine ⟨by show (0 : Int) ≤ 2 ∧ (2 : Int) ≤ b.length; omega, ?_⟩
      conv => whnf
      refine ⟨(b.drop 2, bs ++ a ++ [v]), ⟨⟨by simp; omega, ?_⟩, by simp; omega⟩, Wk.slots rfl ⟨rfl, rfl⟩⟩
      rw [h2, hc, ho]
      simp [Function.comp_def]
end Ink.D

namespace Ink.D
open Go Go.Proofs
set_option maxRecDepth 100000
variable {E : Env} (hE : E.P = Tryd.prog)

/-- a token -/
def tk (kind f : Int) (s : List UInt8) (whole : Bool) (from_ to : Int) : AV := .agg [.int .i64 kind, .int .i64 f, .str s, .bool whole, .int .i64 from_, .int .i64 to]
def tkE (t : AV) (e : Int) : AV := .tup [t, .int .i64 e]

def nameSub (s : List UInt8) (k : Nat) : List UInt8 := (s.drop (k + 1)).takeWhile isReg

theorem take_tw (p : UInt8 → Bool) : ∀ l : List UInt8, l.take (l.takeWhile p).length = l.takeWhile p
  | [] => rfl
  | c :: r => by
    by_cases h : p c = true
    · rw [List.takeWhile_cons_of_pos h]; simpa using take_tw p r
    · rw [List.takeWhile_cons_of_neg h]; rfl

theorem take_whileL (p : UInt8 → Bool) (s : List UInt8) (k : Nat) : (s.drop k).take (whileL p s k - k) = (s.drop k).takeWhile p := by
  unfold whileL
  rw [Nat.add_sub_cancel_left, take_tw]

def nameE (s : List UInt8) (k : Nat) : Int := if (namedL (nameSub s k)).isSome then 0 else 3

include hE
theorem name (s : List UInt8) (k : Nat) (hs : s.length < big) (hk : k < s.length) : PCalls E 65 [.str s, tk 0 0 [] false k 0] (· = tkE (tk 2 0 ((namedL (nameSub s k)).getD []) false k (whileL isReg s (k + 1))) (nameE s k)) := by
  unfold big at hs
  refine p65 hE fun l => ?_
  conv => whnf
  refine ⟨by unfold inI64; omega, ?_⟩
  conv => whnf
  refine CallG.e (while_ hE s (k + 1) 48 isReg (by unfold big; omega) hk (regular hE)) ?_
  have hw := whileL_le isReg s (k + 1) hk
  conv => whnf
  refine ⟨by unfold inI64; omega, ?_⟩
  conv => whnf
  refine ⟨by omega, ?_⟩
  have e1 : ((k : Int) + 1).toNat = k + 1 := by omega
  have e2 : ((s.drop ((k : Int) + 1).toNat).take ((whileL isReg s (k + 1) : Int).toNat - ((k : Int) + 1).toNat)) = nameSub s k := by
    rw [e1, Int.toNat_natCast, take_whileL]; rfl
  rw [e2]
  have hn : (nameSub s k).length < big := by
    have := (List.takeWhile_sublist isReg (l := s.drop (k + 1))).length_le
    simp at this
    unfold nameSub big; omega
  conv => whnf
  refine CallG.e (named hE (nameSub s k) hn) ?_
  cases ho : namedL (nameSub s k) with
  | none =>
    conv => whnf
    refine RetG.drop rfl rfl rfl ⟨rfl, ?_, rfl⟩
    simp only [nameE, ho]; rfl
  | some t =>
    conv => whnf
    refine RetG.drop rfl rfl rfl ⟨rfl, ?_, rfl⟩
    simp only [nameE, ho]; rfl
end Ink.D

namespace Ink.D
open Go Go.Proofs
set_option maxRecDepth 100000
variable {E : Env} (hE : E.P = Tryd.prog)

def isOct (c : UInt8) : Bool := decide (48 ≤ c ∧ c ≤ 55)

/-- up to n digits of eight -/
def octG : Nat → List UInt8 → Nat → Nat × Nat
  | 0, _, v => (v, 0)
  | _ + 1, [], v => (v, 0)
  | n + 1, c :: r, v => if isOct c then let (w, k) := octG n r (v * 8 + (c.toNat - 48)); (w, k + 1) else (v, 0)

def octalL (s : List UInt8) : Nat × Nat := octG 3 s 0

theorem octG_le : ∀ (n : Nat) (s : List UInt8) (v : Nat), (octG n s v).2 ≤ n ∧ (octG n s v).2 ≤ s.length
  | 0, _, _ => by simp [octG]
  | _ + 1, [], _ => by simp [octG]
  | n + 1, c :: r, v => by
    rw [octG]
    have := octG_le n r (v * 8 + (c.toNat - 48))
    split
    · simp only [List.length_cons]; omega
    · simp

theorem shl3 (v : Nat) (h : v < 64) (c : UInt8) (hc : isOct c = true) :
    bits .or .i64 (IntKind.wrap .i64 ((v : Int) * 2 ^ (min (3 : Int).toNat (IntKind.bits .i64)))) (IntKind.wrap .u8 ((c.toNat : Int) - 48)) = ((v * 8 + (c.toNat - 48) : Nat) : Int) := by
  have key : ∀ v, v < 64 → ∀ d, d < 8 → bits .or .i64 (IntKind.wrap .i64 ((v : Nat) * 2 ^ (min (3 : Int).toNat (IntKind.bits .i64)))) (d : Nat) = ((v * 8 + d : Nat) : Int) := by decide +kernel
  have hc' : 48 ≤ c.toNat ∧ c.toNat ≤ 55 := by
    simp only [isOct, decide_eq_true_eq, UInt8.le_iff_toNat_le] at hc
    exact hc
  have e : IntKind.wrap .u8 ((c.toNat : Int) - 48) = ((c.toNat - 48 : Nat) : Int) := by
    have : ((c.toNat : Int) - 48) = ((c.toNat - 48 : Nat) : Int) := by omega
    rw [this, wrap_u8 _ (by omega)]
  rw [e]
  exact key v h _ (by omega)

def octAV (x : Nat × Nat) : AV := .tup [.int .u8 (IntKind.wrap .u8 (x.1 : Int)), .int .i64 x.2]

include hE
theorem octal (s : List UInt8) (hs : s.length < big) : PCalls E 127 [.str s] (· = octAV (octalL s)) := by
  unfold big at hs
  refine p127 hE fun l => ?_
  conv => whnf
  refine LoopG.s (fun x : Nat × Nat => x.2 ≤ 3 ∧ x.2 ≤ s.length ∧ x.1 < 8 ^ x.2 ∧ octalL s = ((octG (3 - x.2) (s.drop x.2) x.1).1, (octG (3 - x.2) (s.drop x.2) x.1).2 + x.2)) 36 (fun x => [(0, .str s), (4, .int .i64 x.2), (5, .int .i64 x.1)]) (fun _ => frm l) (fun x => 3 - x.2) (0, 0) ⟨by simp, by simp, by simp, by simp [octalL]⟩ rfl ⟨rfl, rfl, rfl⟩ rfl ?_
  rintro ⟨v, n⟩ ⟨h1, h2, h3, h4⟩
  simp only at h1 h2 h3 h4
  dsimp only
  conv => whnf
  refine ⟨by omega, ?_⟩
  conv => whnf
  have emin : (if false = true then if (3 : Int) > (s.length : Int) then (3 : Int) else (s.length : Int) else if (3 : Int) < (s.length : Int) then (3 : Int) else (s.length : Int)) = ((min s.length 3 : Nat) : Int) := by
    simp only [Bool.false_eq_true, if_false]; split <;> omega
  rw [emin]
  have stop : (octG (3 - n) (s.drop n) v = (v, 0)) → octalL s = (v, n) := fun h => by rw [h4, h]; simp
  split
  · rename_i hlt
    have hlt : n < s.length ∧ n < 3 := by simp at hlt; omega
    have hg := getD_at s n hlt.1
    have hd := List.drop_eq_getElem_cons hlt.1
    obtain ⟨m, hm⟩ : ∃ m, 3 - n = m + 1 := ⟨2 - n, by omega⟩
    conv => whnf
    refine ⟨by omega, ?_⟩
    conv => whnf
    split
    · rename_i h48
      rw [hg] at h48
      conv => whnf
      refine ⟨by omega, ?_⟩
      conv => whnf
      split
      · rename_i h55
        rw [hg] at h55
        have ho : isOct s[n] = true := by
          simp only [isOct, decide_eq_true_eq, UInt8.le_iff_toNat_le]
          simp at h48 h55
          exact ⟨by show 48 ≤ _; omega, by show _ ≤ 55; omega⟩
        have hv : v < 64 := by
          have : (8 : Nat) ^ n ≤ 8 ^ 2 := Nat.pow_le_pow_right (by decide) (by omega)
          omega
        have hc7 : 48 ≤ s[n].toNat ∧ s[n].toNat ≤ 55 := by simp at h48 h55; omega
        have e8 : IntKind.wrap .u8 ((s[n].toNat : Int) - 48) = ((s[n].toNat - 48 : Nat) : Int) := by
          have : ((s[n].toNat : Int) - 48) = ((s[n].toNat - 48 : Nat) : Int) := by omega
          rw [this, wrap_u8 _ (by omega)]
        conv => whnf
        refine ⟨by decide, ?_⟩
        conv => whnf
        refine ⟨by omega, ?_⟩
        conv => whnf
        rw [hg]
        refine ⟨by rw [e8]; unfold inI64; omega, ?_⟩
        conv => whnf
        refine ⟨by unfold inI64; omega, ?_⟩
        rw [shl3 v hv _ ho]
        conv => whnf
        refine ⟨(v * 8 + (s[n].toNat - 48), n + 1), ⟨⟨by simp; omega, by simp; omega, ?_, ?_⟩, by simp; omega⟩, Wk.slots rfl ⟨rfl, rfl, rfl⟩⟩
        · simp only [Nat.pow_succ]; omega
        · rw [h4, hm, hd]
          have : 3 - (n + 1) = m := by omega
          simp only [octG, ho, if_true, this]
          simp; omega
      · rename_i h55
        rw [hg] at h55
        have ho : isOct s[n] = false := by
          simp only [isOct, decide_eq_false_iff_not, UInt8.le_iff_toNat_le]
          simp at h55
          intro h
          have : s[n].toNat ≤ 55 := h.2
          omega
        conv => whnf
        refine RetG.q ⟨rfl, ?_, rfl⟩
        rw [stop (by rw [hm, hd]; simp [octG, ho])]; rfl
    · rename_i h48
      rw [hg] at h48
      have ho : isOct s[n] = false := by
        simp only [isOct, decide_eq_false_iff_not, UInt8.le_iff_toNat_le]
        simp at h48
        intro h
        have : 48 ≤ s[n].toNat := h.1
        omega
      conv => whnf
      refine RetG.q ⟨rfl, ?_, rfl⟩
      rw [stop (by rw [hm, hd]; simp [octG, ho])]; rfl
  · rename_i hlt
    have hlt : s.length ≤ n ∨ 3 ≤ n := by simp at hlt; omega
    conv => whnf
    refine RetG.q ⟨rfl, ?_, rfl⟩
    rw [stop ?_]
    · rfl
    · rcases hlt with h | h
      · rw [List.drop_eq_nil_of_le h]
        cases (3 - n) <;> rfl
      · have : 3 - n = 0 := by omega
        rw [this]; rfl
end Ink.D

namespace Ink.D
open Go Go.Proofs
set_option maxRecDepth 100000
variable {E : Env} (hE : E.P = Tryd.prog)

/-- what one letter behind a backslash is -/
def escC (c : UInt8) : List UInt8 :=
  if c = 110 then [10] else if c = 114 then [13] else if c = 116 then [9] else if c = 98 then [8] else if c = 102 then [12] else if c = 10 then [] else if c = 13 then [] else [c]

/-- what stands behind a backslash: its bytes, and how many they take -/
def escL (s : List UInt8) : List UInt8 × Nat :=
  let x := octalL s
  if 0 < x.2 then ([UInt8.ofNat x.1], x.2) else if List.isPrefixOf [13, 10] s then ([], 2) else match s with
    | [] => ([], 1)
    | c :: _ => (escC c, 1)

theorem escC_ix (c : UInt8) : (ix [110, 114, 116, 98, 102, 10, 13] c < 0 → escC c = [c]) ∧ (0 ≤ ix [110, 114, 116, 98, 102, 10, 13] c ∧ ix [110, 114, 116, 98, 102, 10, 13] c < 5 → escC c = [([10, 13, 9, 8, 12] : List UInt8).getD (ix [110, 114, 116, 98, 102, 10, 13] c).toNat 0]) ∧
    (5 ≤ ix [110, 114, 116, 98, 102, 10, 13] c → escC c = []) := by
  revert c
  refine u8all ?_
  decide +kernel

theorem wrap_ofNat (n : Nat) : IntKind.wrap .u8 (n : Int) = ((UInt8.ofNat n).toNat : Int) := by
  simp only [IntKind.wrap, IntKind.bits, IntKind.signed, Bool.false_and, Bool.false_eq_true, if_false]
  rw [UInt8.toNat_ofNat']
  omega

include hE
theorem escaped (bs s : List UInt8) (hs : bs.length + s.length < big) (h0 : s ≠ []) : BCalls E 100 [.ptr 1 0 0, .str s] [.bld 86 5 bs] fun r ks => r = .int .i64 (escL s).2 ∧ ks = [.bld 86 5 (bs ++ (escL s).1)] := by
  unfold big at hs
  refine b100 hE fun l => ?_
  conv => whnf
  refine CallG.e (octal hE s (by unfold big; omega)) ?_
  generalize hx : octalL s = x
  obtain ⟨v, n⟩ := x
  conv => whnf
  split
  · rename_i hn
    have hn : 0 < n := by simpa using hn
    have he : escL s = ([UInt8.ofNat v], n) := by simp [escL, hx, hn]
    conv => whnf
    rw [show ((v, n).1 : Int) = (v : Int) from rfl, wrap_ofNat]
    refine CallG.b [(1, 0)] (writeByte hE bs (UInt8.ofNat v) (by omega)) ⟨rfl, trivial⟩ ⟨.ptr 0 1 0 0 rfl, .same _ rfl, trivial⟩ (fun r ks' hq _ _ => ?_)
    obtain ⟨rfl, rfl⟩ := hq
    conv => whnf
    refine RetG.b (ks' := [.bld 86 5 (bs ++ [UInt8.ofNat v])]) rfl rfl rfl rfl rfl rfl ⟨?_, ?_⟩ <;> rw [he]
  · rename_i hn
    have hn : n = 0 := by simp at hn; omega
    conv => whnf
    refine CallG.e (hasPrefix hE s [13, 10] (by unfold big; omega) (by decide)) ?_
    conv => whnf
    split
    · rename_i hp
      have he : escL s = ([], 2) := by simp [escL, hx, hn, hp]
      conv => whnf
      refine RetG.b (ks' := [.bld 86 5 bs]) rfl rfl rfl rfl rfl rfl ⟨?_, ?_⟩ <;> rw [he]
      · rfl
      · simp
    · rename_i hp
      match s, h0, hs, hx, hp with
      | c :: r, h0, hs, hx, hp =>
        have he : escL (c :: r) = (escC c, 1) := by simp only [escL, hx, hn, hp]; simp
        obtain ⟨i1, i2, i3⟩ := escC_ix c
        conv => whnf
        refine ⟨by simp, ?_⟩
        conv => whnf
        refine CallG.e (index47 hE [110, 114, 116, 98, 102, 10, 13] c (by decide)) ?_
        generalize ix [110, 114, 116, 98, 102, 10, 13] c = j at *
        conv => whnf
        split
        · rename_i hj
          have hj : j < 0 := by simpa using hj
          conv => whnf
          refine ⟨by simp, ?_⟩
          conv => whnf
          refine CallG.b [(1, 0)] (writeByte hE bs c (by simp at hs; omega)) ⟨rfl, trivial⟩ ⟨.ptr 0 1 0 0 rfl, .same _ rfl, trivial⟩ (fun r ks' hq _ _ => ?_)
          obtain ⟨rfl, rfl⟩ := hq
          conv => whnf
          refine RetG.b (ks' := [.bld 86 5 (bs ++ [c])]) rfl rfl rfl rfl rfl rfl ⟨?_, ?_⟩ <;> rw [he]
          · rfl
          · rw [i1 hj]
        · rename_i hj
          have hj : 0 ≤ j := by simp at hj; omega
          conv => whnf
          split
          · rename_i hj5
            have hj5 : j < 5 := by simpa using hj5
            conv => whnf
            refine ⟨by simp; omega, ?_⟩
            conv => whnf
            refine CallG.b [(1, 0)] (writeByte hE bs (([10, 13, 9, 8, 12] : List UInt8).getD j.toNat 0) (by simp at hs; omega)) ⟨rfl, trivial⟩ ⟨.ptr 0 1 0 0 rfl, .same _ rfl, trivial⟩ (fun r ks' hq _ _ => ?_)
            obtain ⟨rfl, rfl⟩ := hq
            conv => whnf
            refine RetG.b (ks' := [.bld 86 5 (bs ++ [([10, 13, 9, 8, 12] : List UInt8).getD j.toNat 0])]) rfl rfl rfl rfl rfl rfl ⟨?_, ?_⟩ <;> rw [he]
            · rfl
            · rw [i2 ⟨hj, hj5⟩]
          · rename_i hj5
            have hj5 : 5 ≤ j := by simp at hj5; omega
            conv => whnf
            refine RetG.b (ks' := [.bld 86 5 bs]) rfl rfl rfl rfl rfl rfl ⟨?_, ?_⟩ <;> rw [he]
            · rfl
            · rw [i3 hj5]; simp
end Ink.D

namespace Ink.D
open Go Go.Proofs
set_option maxRecDepth 100000
variable {E : Env} (hE : E.P = Tryd.prog)

theorem escL_le (s : List UInt8) (h : s ≠ []) : 1 ≤ (escL s).2 ∧ (escL s).2 ≤ s.length ∧ (escL s).1.length ≤ 1 := by
  have h1 := octG_le 3 s 0
  unfold escL octalL
  simp only
  split
  · simp; omega
  · split
    · rename_i hp
      have := (List.isPrefixOf_iff_prefix.mp hp).length_le
      simp at this
      simp; omega
    · match s, h with
      | c :: r, _ =>
        refine ⟨Nat.le_refl _, by simp, ?_⟩
        unfold escC
        repeat' split
        all_goals simp

/-- the text behind a parenthesis, and how many bytes it takes -/
def textL (s : List UInt8) (d : Nat) : Option (List UInt8 × Nat) :=
  match s with
  | [] => none
  | c :: r =>
    if c = 92 then
      if r = [] then none else (textL (r.drop (escL r).2) d).map fun x => ((escL r).1 ++ x.1, 1 + (escL r).2 + x.2)
    else if c = 40 then (textL r (d + 1)).map fun x => (c :: x.1, 1 + x.2)
    else if c = 41 then
      match d with
      | 0 => some ([], 1)
      | d + 1 => (textL r d).map fun x => (c :: x.1, 1 + x.2)
    else if c = 13 then
      if List.isPrefixOf [13, 10] (c :: r) then (textL r d).map fun x => (x.1, 1 + x.2) else (textL r d).map fun x => (10 :: x.1, 1 + x.2)
    else (textL r d).map fun x => (c :: x.1, 1 + x.2)
termination_by s.length
decreasing_by all_goals (simp; try omega)

theorem textL_cons (c : UInt8) (r : List UInt8) (d : Nat) : textL (c :: r) d =
    if c = 92 then
      if r = [] then none else (textL (r.drop (escL r).2) d).map fun x => ((escL r).1 ++ x.1, 1 + (escL r).2 + x.2)
    else if c = 40 then (textL r (d + 1)).map fun x => (c :: x.1, 1 + x.2)
    else if c = 41 then
      match d with
      | 0 => some ([], 1)
      | d + 1 => (textL r d).map fun x => (c :: x.1, 1 + x.2)
    else if c = 13 then
      if List.isPrefixOf [13, 10] (c :: r) then (textL r d).map fun x => (x.1, 1 + x.2) else (textL r d).map fun x => (10 :: x.1, 1 + x.2)
    else (textL r d).map fun x => (c :: x.1, 1 + x.2) := by
  rw [textL.eq_def]

theorem textL_nil (d : Nat) : textL [] d = none := by rw [textL]

def textAV (k : Nat) (o : Option (List UInt8 × Nat)) : AV := match o with
  | some x => tkE (tk 3 0 x.1 false k (k + 1 + x.2 : Nat)) 0
  | none => tkE (tk 0 0 [] false 0 0) 4

def tkC (kind f : Int) (s : List UInt8) (whole : Bool) (from_ to : Int) : List AV := [.int .i64 kind, .int .i64 f, .str s, .bool whole, .int .i64 from_, .int .i64 to]

include hE
theorem text (s : List UInt8) (k : Nat) (hs : s.length < big) (hk : k < s.length) : PCalls E 66 [.str s, tk 0 0 [] false k 0] (· = textAV k (textL (s.drop (k + 1)) 0)) := by
  unfold big at hs
  refine p66 hE fun l => ?_
  conv => whnf
  refine ⟨by unfold inI64; omega, ?_⟩
  conv => whnf
  refine LoopG.s (fun x : Nat × Nat × List UInt8 => k < x.1 ∧ x.1 ≤ s.length ∧ x.2.1 ≤ x.1 ∧ x.2.2.length ≤ x.1 ∧ textL (s.drop (k + 1)) 0 = (textL (s.drop x.1) x.2.1).map fun y => (x.2.2 ++ y.1, x.1 - (k + 1) + y.2)) 68
    (fun x => [(0, .str s), (3, .ptr 1 0 0), (4, .ptr 2 0 0), (6, .ptr 3 0 0), (7, .int .i64 x.2.1), (8, .int .i64 x.1)])
    (fun x => [⟨0, true, .frame l⟩, ⟨0, true, .cells 25 (tkC 0 0 [] false k 0)⟩, ⟨0, true, .cells 25 (tkC 0 0 [] false 0 0)⟩, ⟨0, true, .bld 86 5 x.2.2⟩]) (fun x => s.length - x.1) (k + 1, 0, []) ⟨by simp, by simp; omega, by simp, by simp, by simp⟩ rfl ⟨rfl, rfl, rfl, rfl, rfl, rfl⟩ rfl ?_
  rintro ⟨at_, d, bs⟩ ⟨h1, h2, h3, h4, h5⟩
  simp only at h1 h2 h3 h4 h5
  dsimp only
  conv => whnf
  refine ⟨by omega, ?_⟩
  conv => whnf
  split
  · rename_i hlt
    have hlt : at_ < s.length := by simpa using hlt
    have hg := getD_at s at_ hlt
    have hd := List.drop_eq_getElem_cons hlt
    rw [hd] at h5
    have hnx : ∀ (d' : Nat) (b : List UInt8), textL (s[at_] :: s.drop (at_ + 1)) d = (textL (s.drop (at_ + 1)) d').map (fun x => (b ++ x.1, 1 + x.2)) → d' ≤ at_ + 1 → b.length ≤ 1 →
        ((k < at_ + 1 ∧ at_ + 1 ≤ s.length ∧ d' ≤ at_ + 1 ∧ (bs ++ b).length ≤ at_ + 1 ∧ textL (s.drop (k + 1)) 0 = (textL (s.drop (at_ + 1)) d').map fun y => ((bs ++ b) ++ y.1, at_ + 1 - (k + 1) + y.2)) ∧ s.length - (at_ + 1) < s.length - at_) := by
      intro d' b he hd' hb
      refine ⟨⟨by omega, by omega, hd', by simp; omega, ?_⟩, by omega⟩
      rw [h5, he, Option.map_map]
      congr 1
      funext x
      simp only [Function.comp_def, List.append_assoc]
      congr 1
      omega
    generalize hc : s[at_] = c at *
    conv => whnf
    refine ⟨by omega, ?_⟩
    rw [hg]
    conv => whnf
    split
    · rename_i h92
      have h92 : c = 92 := by simpa [zEq] using h92
      conv => whnf
      refine ⟨by unfold inI64; omega, ?_⟩
      conv => whnf
      refine ⟨by omega, ?_⟩
      conv => whnf
      split
      · rename_i he
        have he : at_ + 1 = s.length := by simp at he; omega
        conv => whnf
        refine RetG.drop rfl rfl rfl ⟨rfl, ?_, rfl⟩
        rw [h5, textL_cons, List.drop_eq_nil_of_le (by omega)]
        simp only [h92, if_true]
        rfl
      · rename_i he
        have he : at_ + 1 < s.length := by simp at he; omega
        conv => whnf
        refine ⟨by unfold inI64; omega, ?_⟩
        conv => whnf
        refine ⟨by omega, ?_⟩
        have e1 : ((at_ : Int) + 1).toNat = at_ + 1 := by omega
        have hne : s.drop (at_ + 1) ≠ [] := by simp; omega
        have hle := escL_le _ hne
        have hdl : (s.drop (at_ + 1)).length = s.length - (at_ + 1) := List.length_drop
        conv => whnf
        rw [e1]
        refine CallG.b [(3, 0)] (escaped hE bs (s.drop (at_ + 1)) (by unfold big; omega) hne) ⟨rfl, trivial⟩ ⟨.ptr 0 3 0 0 rfl, .same _ rfl, trivial⟩ (fun r ks' hq _ _ => ?_)
        obtain ⟨rfl, rfl⟩ := hq
        conv => whnf
        refine ⟨by unfold inI64; omega, ?_⟩
        conv => whnf
        refine ⟨by unfold inI64; omega, ?_⟩
        conv => whnf
        refine ⟨(at_ + 1 + (escL (s.drop (at_ + 1))).2, d, bs ++ (escL (s.drop (at_ + 1))).1), ⟨⟨by simp; omega, by simp; omega, by simp; omega, by simp; omega, ?_⟩, by simp; omega⟩, Wk.slots rfl ⟨rfl, rfl, rfl, rfl, rfl, ?_⟩⟩
        · rw [h5, textL_cons]
          simp only [h92, hne, if_true, if_false, List.drop_drop]
          rw [Option.map_map]
          congr 1
          funext x
          simp only [Function.comp_def, List.append_assoc]
          congr 1
          omega
        · refine congrArg (fun n => some (AV.int .i64 n)) ?_
          show (at_ : Int) + _ + 1 = _
          simp; omega
    · rename_i h92
      have h92 : c ≠ 92 := by simpa [zEq] using h92
      have hWB : ∀ b : UInt8, BCalls E 94 [.ptr 1 0 0, .int .u8 (b.toNat : Int)] [.bld 86 5 bs] fun r ks => r = .lit .nilIface ∧ ks = [.bld 86 5 (bs ++ [b])] := fun b => writeByte hE bs b (by omega)
      conv => whnf
      split
      · rename_i h40
        have h40 : c = 40 := by simpa [zEq] using h40
        conv => whnf
        refine ⟨by unfold inI64; omega, ?_⟩
        conv => whnf
        refine ⟨by omega, ?_⟩
        rw [hg]
        conv => whnf
        refine CallG.b [(3, 0)] (hWB c) ⟨rfl, trivial⟩ ⟨.ptr 0 3 0 0 rfl, .same _ rfl, trivial⟩ (fun r ks' hq _ _ => ?_)
        obtain ⟨rfl, rfl⟩ := hq
        conv => whnf
        refine ⟨by unfold inI64; omega, ?_⟩
        conv => whnf
        refine ⟨(at_ + 1, d + 1, bs ++ [c]), hnx (d + 1) [c] ?_ (by omega) (by simp), Wk.slots rfl ⟨rfl, rfl, rfl, rfl, rfl, rfl⟩⟩
        rw [textL_cons]; simp [h40]
      · rename_i h40
        have h40 : c ≠ 40 := by simpa [zEq] using h40
        conv => whnf
        split
        · rename_i h41
          have h41 : c = 41 := by simpa [zEq] using h41
          conv => whnf
          cases d with
          | zero =>
            conv => whnf
            refine CallG.b [(3, 0)] (string hE bs (by omega)) ⟨rfl, trivial⟩ ⟨.ptr 0 3 0 0 rfl, trivial⟩ (fun r ks' hq _ _ => ?_)
            obtain ⟨rfl, rfl⟩ := hq
            conv => whnf
            refine ⟨by unfold inI64; omega, ?_⟩
            conv => whnf
            refine RetG.drop rfl rfl rfl ⟨rfl, ?_, rfl⟩
            rw [h5, textL_cons]
            subst h41
            show AV.tup [tk 3 0 bs false k ((at_ : Int) + 1), _] = AV.tup [tk 3 0 (bs ++ []) false k ((k + 1 + (at_ - (k + 1) + 1) : Nat) : Int), _]
            rw [List.append_nil]
            have : ((at_ : Int) + 1) = ((k + 1 + (at_ - (k + 1) + 1) : Nat) : Int) := by omega
            rw [this]
          | succ d =>
            have hdd : decide (((d + 1 : Nat) : Int) = 0) = false := by simp; omega
            rw [hdd]
            conv => whnf
            refine ⟨by unfold inI64; omega, ?_⟩
            conv => whnf
            refine ⟨by omega, ?_⟩
            rw [hg]
            conv => whnf
            refine CallG.b [(3, 0)] (hWB c) ⟨rfl, trivial⟩ ⟨.ptr 0 3 0 0 rfl, .same _ rfl, trivial⟩ (fun r ks' hq _ _ => ?_)
            obtain ⟨rfl, rfl⟩ := hq
            conv => whnf
            refine ⟨by unfold inI64; omega, ?_⟩
            conv => whnf
            refine ⟨(at_ + 1, d, bs ++ [c]), hnx d [c] ?_ (by omega) (by simp), Wk.slots rfl ⟨rfl, rfl, rfl, rfl, ?_, rfl⟩⟩
            · rw [textL_cons]; simp [h41]
            · refine congrArg (fun n => some (AV.int .i64 n)) ?_
              show ((d + 1 : Nat) : Int) - 1 = (d : Int)
              omega
        · rename_i h41
          have h41 : c ≠ 41 := by simpa [zEq] using h41
          conv => whnf
          split
          · rename_i h13
            have h13 : c = 13 := by simpa [zEq] using h13
            conv => whnf
            refine ⟨by omega, ?_⟩
            have e1 : s.drop (at_ : Int).toNat = c :: s.drop (at_ + 1) := by rw [Int.toNat_natCast, hd]
            rw [e1]
            conv => whnf
            refine CallG.e (hasPrefix hE (c :: s.drop (at_ + 1)) [13, 10] (by unfold big; simp; omega) (by decide)) ?_
            cases hp : List.isPrefixOf [13, 10] (c :: s.drop (at_ + 1)) with
            | true =>
              conv => whnf
              refine ⟨by unfold inI64; omega, ?_⟩
              conv => whnf
              have hq := hnx d [] (by subst h13; rw [textL_cons]; simp [hp]) (by omega) (by simp)
              rw [List.append_nil] at hq
              exact ⟨(at_ + 1, d, bs), hq, Wk.slots rfl ⟨rfl, rfl, rfl, rfl, rfl, rfl⟩⟩
            | false =>
              conv => whnf
              refine CallG.b [(3, 0)] (hWB 10) ⟨rfl, trivial⟩ ⟨.ptr 0 3 0 0 rfl, .same _ rfl, trivial⟩ (fun r ks' hq _ _ => ?_)
              obtain ⟨rfl, rfl⟩ := hq
              conv => whnf
              refine ⟨by unfold inI64; omega, ?_⟩
              conv => whnf
              refine ⟨(at_ + 1, d, bs ++ [10]), hnx d [10] ?_ (by omega) (by simp), Wk.slots rfl ⟨rfl, rfl, rfl, rfl, rfl, rfl⟩⟩
              subst h13; rw [textL_cons]; simp [hp]
          · rename_i h13
            have h13 : c ≠ 13 := by simpa [zEq] using h13
            conv => whnf
            refine ⟨by omega, ?_⟩
            rw [hg]
            conv => whnf
            refine CallG.b [(3, 0)] (hWB c) ⟨rfl, trivial⟩ ⟨.ptr 0 3 0 0 rfl, .same _ rfl, trivial⟩ (fun r ks' hq _ _ => ?_)
            obtain ⟨rfl, rfl⟩ := hq
            conv => whnf
            refine ⟨by unfold inI64; omega, ?_⟩
            conv => whnf
            refine ⟨(at_ + 1, d, bs ++ [c]), hnx d [c] ?_ (by omega) (by simp), Wk.slots rfl ⟨rfl, rfl, rfl, rfl, rfl, rfl⟩⟩
            rw [textL_cons]; simp [h40, h41, h92, h13]
  · rename_i hlt
    have hlt : s.length ≤ at_ := by simpa using hlt
    conv => whnf
    refine RetG.drop rfl rfl rfl ⟨rfl, ?_, rfl⟩
    rw [h5, List.drop_eq_nil_of_le hlt, textL_nil]
    rfl
end Ink.D
