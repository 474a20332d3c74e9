import Derived.Test.YtipdgghfkdlfmaaGreatDoorPCode
import Derived.Test.YtipdgghfkdlfmaaGreatDoorProg
import Derived.Lib.Builder
import Derived.Lib.UnsafeStr
import Derived.Laws.Externs
import Derived.Deep.QuietTactic
import Derived.BigQuiet
import Derived.Lib.Bytealg
set_option linter.all false
namespace Ink.D
open Go Go.Proofs
set_option maxRecDepth 100000
theorem hm : Tryz.prog.follows .mixedOrders = true := by kernel_rfl
theorem c3 : cFn Tryz.prog (mtOf (Tryz.f3.body.getD .skip)) Tryz.f3 = some ac3 := by kernel_rfl
theorem a3 {E : Env} (hE : E.P = Tryz.prog) {args : List AV} {H : List Blk} {Q : AV → List Blk → Prop} (h : wpc E H ac3.body (retQ E H ac3.results Q) ⟨enterTm args ac3.ntmps, H⟩) : ACalls E 3 args H Q :=
  ACalls.enter (by rw [hE]; exact hm) (by rw [hE]; exact Tryz.func3) (by rw [hE]; exact c3) h
theorem p3 {E : Env} (hE : E.P = Tryz.prog) {args : List AV} {Q : AV → Prop} (h : ∀ l, wpc E (frm l) ac3.body (retQ E (frm l) ac3.results fun r H' => hb 0 r = true ∧ Q r ∧ H' = frm l) ⟨enterTm args ac3.ntmps, frm l⟩) (hp : hbL 0 args = true := by rfl) : PCalls E 3 args Q :=
  PCalls.mk hp fun l => a3 hE (h l)
theorem b3 {E : Env} (hE : E.P = Tryz.prog) {args : List AV} {ks : List BK} {Q : AV → List BK → Prop} (h : ∀ l, wpc E (frmB l ks) ac3.body (retQ E (frmB l ks) ac3.results (RB l ks Q)) ⟨enterTm args ac3.ntmps, frmB l ks⟩) : BCalls E 3 args ks Q :=
  BCalls.mk fun l => a3 hE (h l)
theorem c4 : cFn Tryz.prog (mtOf (Tryz.f4.body.getD .skip)) Tryz.f4 = some ac4 := by kernel_rfl
theorem a4 {E : Env} (hE : E.P = Tryz.prog) {args : List AV} {H : List Blk} {Q : AV → List Blk → Prop} (h : wpc E H ac4.body (retQ E H ac4.results Q) ⟨enterTm args ac4.ntmps, H⟩) : ACalls E 4 args H Q :=
  ACalls.enter (by rw [hE]; exact hm) (by rw [hE]; exact Tryz.func4) (by rw [hE]; exact c4) h
theorem p4 {E : Env} (hE : E.P = Tryz.prog) {args : List AV} {Q : AV → Prop} (h : ∀ l, wpc E (frm l) ac4.body (retQ E (frm l) ac4.results fun r H' => hb 0 r = true ∧ Q r ∧ H' = frm l) ⟨enterTm args ac4.ntmps, frm l⟩) (hp : hbL 0 args = true := by rfl) : PCalls E 4 args Q :=
  PCalls.mk hp fun l => a4 hE (h l)
theorem b4 {E : Env} (hE : E.P = Tryz.prog) {args : List AV} {ks : List BK} {Q : AV → List BK → Prop} (h : ∀ l, wpc E (frmB l ks) ac4.body (retQ E (frmB l ks) ac4.results (RB l ks Q)) ⟨enterTm args ac4.ntmps, frmB l ks⟩) : BCalls E 4 args ks Q :=
  BCalls.mk fun l => a4 hE (h l)
theorem c6 : cFn Tryz.prog (mtOf (Tryz.f6.body.getD .skip)) Tryz.f6 = some ac6 := by kernel_rfl
theorem a6 {E : Env} (hE : E.P = Tryz.prog) {args : List AV} {H : List Blk} {Q : AV → List Blk → Prop} (h : wpc E H ac6.body (retQ E H ac6.results Q) ⟨enterTm args ac6.ntmps, H⟩) : ACalls E 6 args H Q :=
  ACalls.enter (by rw [hE]; exact hm) (by rw [hE]; exact Tryz.func6) (by rw [hE]; exact c6) h
theorem p6 {E : Env} (hE : E.P = Tryz.prog) {args : List AV} {Q : AV → Prop} (h : ∀ l, wpc E (frm l) ac6.body (retQ E (frm l) ac6.results fun r H' => hb 0 r = true ∧ Q r ∧ H' = frm l) ⟨enterTm args ac6.ntmps, frm l⟩) (hp : hbL 0 args = true := by rfl) : PCalls E 6 args Q :=
  PCalls.mk hp fun l => a6 hE (h l)
theorem b6 {E : Env} (hE : E.P = Tryz.prog) {args : List AV} {ks : List BK} {Q : AV → List BK → Prop} (h : ∀ l, wpc E (frmB l ks) ac6.body (retQ E (frmB l ks) ac6.results (RB l ks Q)) ⟨enterTm args ac6.ntmps, frmB l ks⟩) : BCalls E 6 args ks Q :=
  BCalls.mk fun l => a6 hE (h l)
theorem c7 : cFn Tryz.prog (mtOf (Tryz.f7.body.getD .skip)) Tryz.f7 = some ac7 := by kernel_rfl
theorem a7 {E : Env} (hE : E.P = Tryz.prog) {args : List AV} {H : List Blk} {Q : AV → List Blk → Prop} (h : wpc E H ac7.body (retQ E H ac7.results Q) ⟨enterTm args ac7.ntmps, H⟩) : ACalls E 7 args H Q :=
  ACalls.enter (by rw [hE]; exact hm) (by rw [hE]; exact Tryz.func7) (by rw [hE]; exact c7) h
theorem p7 {E : Env} (hE : E.P = Tryz.prog) {args : List AV} {Q : AV → Prop} (h : ∀ l, wpc E (frm l) ac7.body (retQ E (frm l) ac7.results fun r H' => hb 0 r = true ∧ Q r ∧ H' = frm l) ⟨enterTm args ac7.ntmps, frm l⟩) (hp : hbL 0 args = true := by rfl) : PCalls E 7 args Q :=
  PCalls.mk hp fun l => a7 hE (h l)
theorem c8 : cFn Tryz.prog (mtOf (Tryz.f8.body.getD .skip)) Tryz.f8 = some ac8 := by kernel_rfl
theorem a8 {E : Env} (hE : E.P = Tryz.prog) {args : List AV} {H : List Blk} {Q : AV → List Blk → Prop} (h : wpc E H ac8.body (retQ E H ac8.results Q) ⟨enterTm args ac8.ntmps, H⟩) : ACalls E 8 args H Q :=
  ACalls.enter (by rw [hE]; exact hm) (by rw [hE]; exact Tryz.func8) (by rw [hE]; exact c8) h
theorem p8 {E : Env} (hE : E.P = Tryz.prog) {args : List AV} {Q : AV → Prop} (h : ∀ l, wpc E (frm l) ac8.body (retQ E (frm l) ac8.results fun r H' => hb 0 r = true ∧ Q r ∧ H' = frm l) ⟨enterTm args ac8.ntmps, frm l⟩) (hp : hbL 0 args = true := by rfl) : PCalls E 8 args Q :=
  PCalls.mk hp fun l => a8 hE (h l)
theorem c9 : cFn Tryz.prog (mtOf (Tryz.f9.body.getD .skip)) Tryz.f9 = some ac9 := by kernel_rfl
theorem a9 {E : Env} (hE : E.P = Tryz.prog) {args : List AV} {H : List Blk} {Q : AV → List Blk → Prop} (h : wpc E H ac9.body (retQ E H ac9.results Q) ⟨enterTm args ac9.ntmps, H⟩) : ACalls E 9 args H Q :=
  ACalls.enter (by rw [hE]; exact hm) (by rw [hE]; exact Tryz.func9) (by rw [hE]; exact c9) h
theorem p9 {E : Env} (hE : E.P = Tryz.prog) {args : List AV} {Q : AV → Prop} (h : ∀ l, wpc E (frm l) ac9.body (retQ E (frm l) ac9.results fun r H' => hb 0 r = true ∧ Q r ∧ H' = frm l) ⟨enterTm args ac9.ntmps, frm l⟩) (hp : hbL 0 args = true := by rfl) : PCalls E 9 args Q :=
  PCalls.mk hp fun l => a9 hE (h l)
theorem c10 : cFn Tryz.prog (mtOf (Tryz.f10.body.getD .skip)) Tryz.f10 = some ac10 := by kernel_rfl
theorem a10 {E : Env} (hE : E.P = Tryz.prog) {args : List AV} {H : List Blk} {Q : AV → List Blk → Prop} (h : wpc E H ac10.body (retQ E H ac10.results Q) ⟨enterTm args ac10.ntmps, H⟩) : ACalls E 10 args H Q :=
  ACalls.enter (by rw [hE]; exact hm) (by rw [hE]; exact Tryz.func10) (by rw [hE]; exact c10) h
theorem p10 {E : Env} (hE : E.P = Tryz.prog) {args : List AV} {Q : AV → Prop} (h : ∀ l, wpc E (frm l) ac10.body (retQ E (frm l) ac10.results fun r H' => hb 0 r = true ∧ Q r ∧ H' = frm l) ⟨enterTm args ac10.ntmps, frm l⟩) (hp : hbL 0 args = true := by rfl) : PCalls E 10 args Q :=
  PCalls.mk hp fun l => a10 hE (h l)
theorem c11 : cFn Tryz.prog (mtOf (Tryz.f11.body.getD .skip)) Tryz.f11 = some ac11 := by kernel_rfl
theorem a11 {E : Env} (hE : E.P = Tryz.prog) {args : List AV} {H : List Blk} {Q : AV → List Blk → Prop} (h : wpc E H ac11.body (retQ E H ac11.results Q) ⟨enterTm args ac11.ntmps, H⟩) : ACalls E 11 args H Q :=
  ACalls.enter (by rw [hE]; exact hm) (by rw [hE]; exact Tryz.func11) (by rw [hE]; exact c11) h
theorem p11 {E : Env} (hE : E.P = Tryz.prog) {args : List AV} {Q : AV → Prop} (h : ∀ l, wpc E (frm l) ac11.body (retQ E (frm l) ac11.results fun r H' => hb 0 r = true ∧ Q r ∧ H' = frm l) ⟨enterTm args ac11.ntmps, frm l⟩) (hp : hbL 0 args = true := by rfl) : PCalls E 11 args Q :=
  PCalls.mk hp fun l => a11 hE (h l)
theorem c12 : cFn Tryz.prog (mtOf (Tryz.f12.body.getD .skip)) Tryz.f12 = some ac12 := by kernel_rfl
theorem a12 {E : Env} (hE : E.P = Tryz.prog) {args : List AV} {H : List Blk} {Q : AV → List Blk → Prop} (h : wpc E H ac12.body (retQ E H ac12.results Q) ⟨enterTm args ac12.ntmps, H⟩) : ACalls E 12 args H Q :=
  ACalls.enter (by rw [hE]; exact hm) (by rw [hE]; exact Tryz.func12) (by rw [hE]; exact c12) h
theorem p12 {E : Env} (hE : E.P = Tryz.prog) {args : List AV} {Q : AV → Prop} (h : ∀ l, wpc E (frm l) ac12.body (retQ E (frm l) ac12.results fun r H' => hb 0 r = true ∧ Q r ∧ H' = frm l) ⟨enterTm args ac12.ntmps, frm l⟩) (hp : hbL 0 args = true := by rfl) : PCalls E 12 args Q :=
  PCalls.mk hp fun l => a12 hE (h l)
theorem c20 : cFn Tryz.prog (mtOf (Tryz.f20.body.getD .skip)) Tryz.f20 = some ac20 := by kernel_rfl
theorem a20 {E : Env} (hE : E.P = Tryz.prog) {args : List AV} {H : List Blk} {Q : AV → List Blk → Prop} (h : wpc E H ac20.body (retQ E H ac20.results Q) ⟨enterTm args ac20.ntmps, H⟩) : ACalls E 20 args H Q :=
  ACalls.enter (by rw [hE]; exact hm) (by rw [hE]; exact Tryz.func20) (by rw [hE]; exact c20) h
theorem p20 {E : Env} (hE : E.P = Tryz.prog) {args : List AV} {Q : AV → Prop} (h : ∀ l, wpc E (frm l) ac20.body (retQ E (frm l) ac20.results fun r H' => hb 0 r = true ∧ Q r ∧ H' = frm l) ⟨enterTm args ac20.ntmps, frm l⟩) (hp : hbL 0 args = true := by rfl) : PCalls E 20 args Q :=
  PCalls.mk hp fun l => a20 hE (h l)
theorem c21 : cFn Tryz.prog (mtOf (Tryz.f21.body.getD .skip)) Tryz.f21 = some ac21 := by kernel_rfl
theorem a21 {E : Env} (hE : E.P = Tryz.prog) {args : List AV} {H : List Blk} {Q : AV → List Blk → Prop} (h : wpc E H ac21.body (retQ E H ac21.results Q) ⟨enterTm args ac21.ntmps, H⟩) : ACalls E 21 args H Q :=
  ACalls.enter (by rw [hE]; exact hm) (by rw [hE]; exact Tryz.func21) (by rw [hE]; exact c21) h
theorem p21 {E : Env} (hE : E.P = Tryz.prog) {args : List AV} {Q : AV → Prop} (h : ∀ l, wpc E (frm l) ac21.body (retQ E (frm l) ac21.results fun r H' => hb 0 r = true ∧ Q r ∧ H' = frm l) ⟨enterTm args ac21.ntmps, frm l⟩) (hp : hbL 0 args = true := by rfl) : PCalls E 21 args Q :=
  PCalls.mk hp fun l => a21 hE (h l)
theorem c22 : cFn Tryz.prog (mtOf (Tryz.f22.body.getD .skip)) Tryz.f22 = some ac22 := by kernel_rfl
theorem a22 {E : Env} (hE : E.P = Tryz.prog) {args : List AV} {H : List Blk} {Q : AV → List Blk → Prop} (h : wpc E H ac22.body (retQ E H ac22.results Q) ⟨enterTm args ac22.ntmps, H⟩) : ACalls E 22 args H Q :=
  ACalls.enter (by rw [hE]; exact hm) (by rw [hE]; exact Tryz.func22) (by rw [hE]; exact c22) h
theorem p22 {E : Env} (hE : E.P = Tryz.prog) {args : List AV} {Q : AV → Prop} (h : ∀ l, wpc E (frm l) ac22.body (retQ E (frm l) ac22.results fun r H' => hb 0 r = true ∧ Q r ∧ H' = frm l) ⟨enterTm args ac22.ntmps, frm l⟩) (hp : hbL 0 args = true := by rfl) : PCalls E 22 args Q :=
  PCalls.mk hp fun l => a22 hE (h l)
theorem c23 : cFn Tryz.prog (mtOf (Tryz.f23.body.getD .skip)) Tryz.f23 = some ac23 := by kernel_rfl
theorem a23 {E : Env} (hE : E.P = Tryz.prog) {args : List AV} {H : List Blk} {Q : AV → List Blk → Prop} (h : wpc E H ac23.body (retQ E H ac23.results Q) ⟨enterTm args ac23.ntmps, H⟩) : ACalls E 23 args H Q :=
  ACalls.enter (by rw [hE]; exact hm) (by rw [hE]; exact Tryz.func23) (by rw [hE]; exact c23) h
theorem p23 {E : Env} (hE : E.P = Tryz.prog) {args : List AV} {Q : AV → Prop} (h : ∀ l, wpc E (frm l) ac23.body (retQ E (frm l) ac23.results fun r H' => hb 0 r = true ∧ Q r ∧ H' = frm l) ⟨enterTm args ac23.ntmps, frm l⟩) (hp : hbL 0 args = true := by rfl) : PCalls E 23 args Q :=
  PCalls.mk hp fun l => a23 hE (h l)
theorem c24 : cFn Tryz.prog (mtOf (Tryz.f24.body.getD .skip)) Tryz.f24 = some ac24 := by kernel_rfl
theorem a24 {E : Env} (hE : E.P = Tryz.prog) {args : List AV} {H : List Blk} {Q : AV → List Blk → Prop} (h : wpc E H ac24.body (retQ E H ac24.results Q) ⟨enterTm args ac24.ntmps, H⟩) : ACalls E 24 args H Q :=
  ACalls.enter (by rw [hE]; exact hm) (by rw [hE]; exact Tryz.func24) (by rw [hE]; exact c24) h
theorem c25 : cFn Tryz.prog (mtOf (Tryz.f25.body.getD .skip)) Tryz.f25 = some ac25 := by kernel_rfl
theorem a25 {E : Env} (hE : E.P = Tryz.prog) {args : List AV} {H : List Blk} {Q : AV → List Blk → Prop} (h : wpc E H ac25.body (retQ E H ac25.results Q) ⟨enterTm args ac25.ntmps, H⟩) : ACalls E 25 args H Q :=
  ACalls.enter (by rw [hE]; exact hm) (by rw [hE]; exact Tryz.func25) (by rw [hE]; exact c25) h
theorem c26 : cFn Tryz.prog (mtOf (Tryz.f26.body.getD .skip)) Tryz.f26 = some ac26 := by kernel_rfl
theorem a26 {E : Env} (hE : E.P = Tryz.prog) {args : List AV} {H : List Blk} {Q : AV → List Blk → Prop} (h : wpc E H ac26.body (retQ E H ac26.results Q) ⟨enterTm args ac26.ntmps, H⟩) : ACalls E 26 args H Q :=
  ACalls.enter (by rw [hE]; exact hm) (by rw [hE]; exact Tryz.func26) (by rw [hE]; exact c26) h
theorem c27 : cFn Tryz.prog (mtOf (Tryz.f27.body.getD .skip)) Tryz.f27 = some ac27 := by kernel_rfl
theorem a27 {E : Env} (hE : E.P = Tryz.prog) {args : List AV} {H : List Blk} {Q : AV → List Blk → Prop} (h : wpc E H ac27.body (retQ E H ac27.results Q) ⟨enterTm args ac27.ntmps, H⟩) : ACalls E 27 args H Q :=
  ACalls.enter (by rw [hE]; exact hm) (by rw [hE]; exact Tryz.func27) (by rw [hE]; exact c27) h
theorem p27 {E : Env} (hE : E.P = Tryz.prog) {args : List AV} {Q : AV → Prop} (h : ∀ l, wpc E (frm l) ac27.body (retQ E (frm l) ac27.results fun r H' => hb 0 r = true ∧ Q r ∧ H' = frm l) ⟨enterTm args ac27.ntmps, frm l⟩) (hp : hbL 0 args = true := by rfl) : PCalls E 27 args Q :=
  PCalls.mk hp fun l => a27 hE (h l)
theorem b27 {E : Env} (hE : E.P = Tryz.prog) {args : List AV} {ks : List BK} {Q : AV → List BK → Prop} (h : ∀ l, wpc E (frmB l ks) ac27.body (retQ E (frmB l ks) ac27.results (RB l ks Q)) ⟨enterTm args ac27.ntmps, frmB l ks⟩) : BCalls E 27 args ks Q :=
  BCalls.mk fun l => a27 hE (h l)
theorem c28 : cFn Tryz.prog (mtOf (Tryz.f28.body.getD .skip)) Tryz.f28 = some ac28 := by kernel_rfl
theorem a28 {E : Env} (hE : E.P = Tryz.prog) {args : List AV} {H : List Blk} {Q : AV → List Blk → Prop} (h : wpc E H ac28.body (retQ E H ac28.results Q) ⟨enterTm args ac28.ntmps, H⟩) : ACalls E 28 args H Q :=
  ACalls.enter (by rw [hE]; exact hm) (by rw [hE]; exact Tryz.func28) (by rw [hE]; exact c28) h
theorem c29 : cFn Tryz.prog (mtOf (Tryz.f29.body.getD .skip)) Tryz.f29 = some ac29 := by kernel_rfl
theorem a29 {E : Env} (hE : E.P = Tryz.prog) {args : List AV} {H : List Blk} {Q : AV → List Blk → Prop} (h : wpc E H ac29.body (retQ E H ac29.results Q) ⟨enterTm args ac29.ntmps, H⟩) : ACalls E 29 args H Q :=
  ACalls.enter (by rw [hE]; exact hm) (by rw [hE]; exact Tryz.func29) (by rw [hE]; exact c29) h
theorem b29 {E : Env} (hE : E.P = Tryz.prog) {args : List AV} {ks : List BK} {Q : AV → List BK → Prop} (h : ∀ l, wpc E (frmB l ks) ac29.body (retQ E (frmB l ks) ac29.results (RB l ks Q)) ⟨enterTm args ac29.ntmps, frmB l ks⟩) : BCalls E 29 args ks Q :=
  BCalls.mk fun l => a29 hE (h l)
theorem c30 : cFn Tryz.prog (mtOf (Tryz.f30.body.getD .skip)) Tryz.f30 = some ac30 := by kernel_rfl
theorem a30 {E : Env} (hE : E.P = Tryz.prog) {args : List AV} {H : List Blk} {Q : AV → List Blk → Prop} (h : wpc E H ac30.body (retQ E H ac30.results Q) ⟨enterTm args ac30.ntmps, H⟩) : ACalls E 30 args H Q :=
  ACalls.enter (by rw [hE]; exact hm) (by rw [hE]; exact Tryz.func30) (by rw [hE]; exact c30) h
theorem p30 {E : Env} (hE : E.P = Tryz.prog) {args : List AV} {Q : AV → Prop} (h : ∀ l, wpc E (frm l) ac30.body (retQ E (frm l) ac30.results fun r H' => hb 0 r = true ∧ Q r ∧ H' = frm l) ⟨enterTm args ac30.ntmps, frm l⟩) (hp : hbL 0 args = true := by rfl) : PCalls E 30 args Q :=
  PCalls.mk hp fun l => a30 hE (h l)
theorem c31 : cFn Tryz.prog (mtOf (Tryz.f31.body.getD .skip)) Tryz.f31 = some ac31 := by kernel_rfl
theorem a31 {E : Env} (hE : E.P = Tryz.prog) {args : List AV} {H : List Blk} {Q : AV → List Blk → Prop} (h : wpc E H ac31.body (retQ E H ac31.results Q) ⟨enterTm args ac31.ntmps, H⟩) : ACalls E 31 args H Q :=
  ACalls.enter (by rw [hE]; exact hm) (by rw [hE]; exact Tryz.func31) (by rw [hE]; exact c31) h
theorem p31 {E : Env} (hE : E.P = Tryz.prog) {args : List AV} {Q : AV → Prop} (h : ∀ l, wpc E (frm l) ac31.body (retQ E (frm l) ac31.results fun r H' => hb 0 r = true ∧ Q r ∧ H' = frm l) ⟨enterTm args ac31.ntmps, frm l⟩) (hp : hbL 0 args = true := by rfl) : PCalls E 31 args Q :=
  PCalls.mk hp fun l => a31 hE (h l)
theorem c32 : cFn Tryz.prog (mtOf (Tryz.f32.body.getD .skip)) Tryz.f32 = some ac32 := by kernel_rfl
theorem a32 {E : Env} (hE : E.P = Tryz.prog) {args : List AV} {H : List Blk} {Q : AV → List Blk → Prop} (h : wpc E H ac32.body (retQ E H ac32.results Q) ⟨enterTm args ac32.ntmps, H⟩) : ACalls E 32 args H Q :=
  ACalls.enter (by rw [hE]; exact hm) (by rw [hE]; exact Tryz.func32) (by rw [hE]; exact c32) h
theorem b32 {E : Env} (hE : E.P = Tryz.prog) {args : List AV} {ks : List BK} {Q : AV → List BK → Prop} (h : ∀ l, wpc E (frmB l ks) ac32.body (retQ E (frmB l ks) ac32.results (RB l ks Q)) ⟨enterTm args ac32.ntmps, frmB l ks⟩) : BCalls E 32 args ks Q :=
  BCalls.mk fun l => a32 hE (h l)
theorem c37 : cFn Tryz.prog (mtOf (Tryz.f37.body.getD .skip)) Tryz.f37 = some ac37 := by kernel_rfl
theorem a37 {E : Env} (hE : E.P = Tryz.prog) {args : List AV} {H : List Blk} {Q : AV → List Blk → Prop} (h : wpc E H ac37.body (retQ E H ac37.results Q) ⟨enterTm args ac37.ntmps, H⟩) : ACalls E 37 args H Q :=
  ACalls.enter (by rw [hE]; exact hm) (by rw [hE]; exact Tryz.func37) (by rw [hE]; exact c37) h
theorem b37 {E : Env} (hE : E.P = Tryz.prog) {args : List AV} {ks : List BK} {Q : AV → List BK → Prop} (h : ∀ l, wpc E (frmB l ks) ac37.body (retQ E (frmB l ks) ac37.results (RB l ks Q)) ⟨enterTm args ac37.ntmps, frmB l ks⟩) : BCalls E 37 args ks Q :=
  BCalls.mk fun l => a37 hE (h l)
theorem c45 : cFn Tryz.prog (mtOf (Tryz.f45.body.getD .skip)) Tryz.f45 = some ac45 := by kernel_rfl
theorem a45 {E : Env} (hE : E.P = Tryz.prog) {args : List AV} {H : List Blk} {Q : AV → List Blk → Prop} (h : wpc E H ac45.body (retQ E H ac45.results Q) ⟨enterTm args ac45.ntmps, H⟩) : ACalls E 45 args H Q :=
  ACalls.enter (by rw [hE]; exact hm) (by rw [hE]; exact Tryz.func45) (by rw [hE]; exact c45) h
theorem b45 {E : Env} (hE : E.P = Tryz.prog) {args : List AV} {ks : List BK} {Q : AV → List BK → Prop} (h : ∀ l, wpc E (frmB l ks) ac45.body (retQ E (frmB l ks) ac45.results (RB l ks Q)) ⟨enterTm args ac45.ntmps, frmB l ks⟩) : BCalls E 45 args ks Q :=
  BCalls.mk fun l => a45 hE (h l)
theorem c46 : cFn Tryz.prog (mtOf (Tryz.f46.body.getD .skip)) Tryz.f46 = some ac46 := by kernel_rfl
theorem a46 {E : Env} (hE : E.P = Tryz.prog) {args : List AV} {H : List Blk} {Q : AV → List Blk → Prop} (h : wpc E H ac46.body (retQ E H ac46.results Q) ⟨enterTm args ac46.ntmps, H⟩) : ACalls E 46 args H Q :=
  ACalls.enter (by rw [hE]; exact hm) (by rw [hE]; exact Tryz.func46) (by rw [hE]; exact c46) h
theorem p46 {E : Env} (hE : E.P = Tryz.prog) {args : List AV} {Q : AV → Prop} (h : ∀ l, wpc E (frm l) ac46.body (retQ E (frm l) ac46.results fun r H' => hb 0 r = true ∧ Q r ∧ H' = frm l) ⟨enterTm args ac46.ntmps, frm l⟩) (hp : hbL 0 args = true := by rfl) : PCalls E 46 args Q :=
  PCalls.mk hp fun l => a46 hE (h l)
theorem c47 : cFn Tryz.prog (mtOf (Tryz.f47.body.getD .skip)) Tryz.f47 = some ac47 := by kernel_rfl
theorem a47 {E : Env} (hE : E.P = Tryz.prog) {args : List AV} {H : List Blk} {Q : AV → List Blk → Prop} (h : wpc E H ac47.body (retQ E H ac47.results Q) ⟨enterTm args ac47.ntmps, H⟩) : ACalls E 47 args H Q :=
  ACalls.enter (by rw [hE]; exact hm) (by rw [hE]; exact Tryz.func47) (by rw [hE]; exact c47) h
theorem p47 {E : Env} (hE : E.P = Tryz.prog) {args : List AV} {Q : AV → Prop} (h : ∀ l, wpc E (frm l) ac47.body (retQ E (frm l) ac47.results fun r H' => hb 0 r = true ∧ Q r ∧ H' = frm l) ⟨enterTm args ac47.ntmps, frm l⟩) (hp : hbL 0 args = true := by rfl) : PCalls E 47 args Q :=
  PCalls.mk hp fun l => a47 hE (h l)
theorem b47 {E : Env} (hE : E.P = Tryz.prog) {args : List AV} {ks : List BK} {Q : AV → List BK → Prop} (h : ∀ l, wpc E (frmB l ks) ac47.body (retQ E (frmB l ks) ac47.results (RB l ks Q)) ⟨enterTm args ac47.ntmps, frmB l ks⟩) : BCalls E 47 args ks Q :=
  BCalls.mk fun l => a47 hE (h l)
theorem c48 : cFn Tryz.prog (mtOf (Tryz.f48.body.getD .skip)) Tryz.f48 = some ac48 := by kernel_rfl
theorem a48 {E : Env} (hE : E.P = Tryz.prog) {args : List AV} {H : List Blk} {Q : AV → List Blk → Prop} (h : wpc E H ac48.body (retQ E H ac48.results Q) ⟨enterTm args ac48.ntmps, H⟩) : ACalls E 48 args H Q :=
  ACalls.enter (by rw [hE]; exact hm) (by rw [hE]; exact Tryz.func48) (by rw [hE]; exact c48) h
theorem p48 {E : Env} (hE : E.P = Tryz.prog) {args : List AV} {Q : AV → Prop} (h : ∀ l, wpc E (frm l) ac48.body (retQ E (frm l) ac48.results fun r H' => hb 0 r = true ∧ Q r ∧ H' = frm l) ⟨enterTm args ac48.ntmps, frm l⟩) (hp : hbL 0 args = true := by rfl) : PCalls E 48 args Q :=
  PCalls.mk hp fun l => a48 hE (h l)
theorem c53 : cFn Tryz.prog (mtOf (Tryz.f53.body.getD .skip)) Tryz.f53 = some ac53 := by kernel_rfl
theorem a53 {E : Env} (hE : E.P = Tryz.prog) {args : List AV} {H : List Blk} {Q : AV → List Blk → Prop} (h : wpc E H ac53.body (retQ E H ac53.results Q) ⟨enterTm args ac53.ntmps, H⟩) : ACalls E 53 args H Q :=
  ACalls.enter (by rw [hE]; exact hm) (by rw [hE]; exact Tryz.func53) (by rw [hE]; exact c53) h
theorem p53 {E : Env} (hE : E.P = Tryz.prog) {args : List AV} {Q : AV → Prop} (h : ∀ l, wpc E (frm l) ac53.body (retQ E (frm l) ac53.results fun r H' => hb 0 r = true ∧ Q r ∧ H' = frm l) ⟨enterTm args ac53.ntmps, frm l⟩) (hp : hbL 0 args = true := by rfl) : PCalls E 53 args Q :=
  PCalls.mk hp fun l => a53 hE (h l)
theorem c54 : cFn Tryz.prog (mtOf (Tryz.f54.body.getD .skip)) Tryz.f54 = some ac54 := by kernel_rfl
theorem a54 {E : Env} (hE : E.P = Tryz.prog) {args : List AV} {H : List Blk} {Q : AV → List Blk → Prop} (h : wpc E H ac54.body (retQ E H ac54.results Q) ⟨enterTm args ac54.ntmps, H⟩) : ACalls E 54 args H Q :=
  ACalls.enter (by rw [hE]; exact hm) (by rw [hE]; exact Tryz.func54) (by rw [hE]; exact c54) h
theorem p54 {E : Env} (hE : E.P = Tryz.prog) {args : List AV} {Q : AV → Prop} (h : ∀ l, wpc E (frm l) ac54.body (retQ E (frm l) ac54.results fun r H' => hb 0 r = true ∧ Q r ∧ H' = frm l) ⟨enterTm args ac54.ntmps, frm l⟩) (hp : hbL 0 args = true := by rfl) : PCalls E 54 args Q :=
  PCalls.mk hp fun l => a54 hE (h l)
theorem c56 : cFn Tryz.prog (mtOf (Tryz.f56.body.getD .skip)) Tryz.f56 = some ac56 := by kernel_rfl
theorem a56 {E : Env} (hE : E.P = Tryz.prog) {args : List AV} {H : List Blk} {Q : AV → List Blk → Prop} (h : wpc E H ac56.body (retQ E H ac56.results Q) ⟨enterTm args ac56.ntmps, H⟩) : ACalls E 56 args H Q :=
  ACalls.enter (by rw [hE]; exact hm) (by rw [hE]; exact Tryz.func56) (by rw [hE]; exact c56) h
theorem b56 {E : Env} (hE : E.P = Tryz.prog) {args : List AV} {ks : List BK} {Q : AV → List BK → Prop} (h : ∀ l, wpc E (frmB l ks) ac56.body (retQ E (frmB l ks) ac56.results (RB l ks Q)) ⟨enterTm args ac56.ntmps, frmB l ks⟩) : BCalls E 56 args ks Q :=
  BCalls.mk fun l => a56 hE (h l)
theorem c71 : cFn Tryz.prog (mtOf (Tryz.f71.body.getD .skip)) Tryz.f71 = some ac71 := by kernel_rfl
theorem a71 {E : Env} (hE : E.P = Tryz.prog) {args : List AV} {H : List Blk} {Q : AV → List Blk → Prop} (h : wpc E H ac71.body (retQ E H ac71.results Q) ⟨enterTm args ac71.ntmps, H⟩) : ACalls E 71 args H Q :=
  ACalls.enter (by rw [hE]; exact hm) (by rw [hE]; exact Tryz.func71) (by rw [hE]; exact c71) h
theorem b71 {E : Env} (hE : E.P = Tryz.prog) {args : List AV} {ks : List BK} {Q : AV → List BK → Prop} (h : ∀ l, wpc E (frmB l ks) ac71.body (retQ E (frmB l ks) ac71.results (RB l ks Q)) ⟨enterTm args ac71.ntmps, frmB l ks⟩) : BCalls E 71 args ks Q :=
  BCalls.mk fun l => a71 hE (h l)
theorem c72 : cFn Tryz.prog (mtOf (Tryz.f72.body.getD .skip)) Tryz.f72 = some ac72 := by kernel_rfl
theorem a72 {E : Env} (hE : E.P = Tryz.prog) {args : List AV} {H : List Blk} {Q : AV → List Blk → Prop} (h : wpc E H ac72.body (retQ E H ac72.results Q) ⟨enterTm args ac72.ntmps, H⟩) : ACalls E 72 args H Q :=
  ACalls.enter (by rw [hE]; exact hm) (by rw [hE]; exact Tryz.func72) (by rw [hE]; exact c72) h
theorem b72 {E : Env} (hE : E.P = Tryz.prog) {args : List AV} {ks : List BK} {Q : AV → List BK → Prop} (h : ∀ l, wpc E (frmB l ks) ac72.body (retQ E (frmB l ks) ac72.results (RB l ks Q)) ⟨enterTm args ac72.ntmps, frmB l ks⟩) : BCalls E 72 args ks Q :=
  BCalls.mk fun l => a72 hE (h l)
theorem c73 : cFn Tryz.prog (mtOf (Tryz.f73.body.getD .skip)) Tryz.f73 = some ac73 := by kernel_rfl
theorem a73 {E : Env} (hE : E.P = Tryz.prog) {args : List AV} {H : List Blk} {Q : AV → List Blk → Prop} (h : wpc E H ac73.body (retQ E H ac73.results Q) ⟨enterTm args ac73.ntmps, H⟩) : ACalls E 73 args H Q :=
  ACalls.enter (by rw [hE]; exact hm) (by rw [hE]; exact Tryz.func73) (by rw [hE]; exact c73) h
theorem p73 {E : Env} (hE : E.P = Tryz.prog) {args : List AV} {Q : AV → Prop} (h : ∀ l, wpc E (frm l) ac73.body (retQ E (frm l) ac73.results fun r H' => hb 0 r = true ∧ Q r ∧ H' = frm l) ⟨enterTm args ac73.ntmps, frm l⟩) (hp : hbL 0 args = true := by rfl) : PCalls E 73 args Q :=
  PCalls.mk hp fun l => a73 hE (h l)
theorem c74 : cFn Tryz.prog (mtOf (Tryz.f74.body.getD .skip)) Tryz.f74 = some ac74 := by kernel_rfl
theorem a74 {E : Env} (hE : E.P = Tryz.prog) {args : List AV} {H : List Blk} {Q : AV → List Blk → Prop} (h : wpc E H ac74.body (retQ E H ac74.results Q) ⟨enterTm args ac74.ntmps, H⟩) : ACalls E 74 args H Q :=
  ACalls.enter (by rw [hE]; exact hm) (by rw [hE]; exact Tryz.func74) (by rw [hE]; exact c74) h
theorem p74 {E : Env} (hE : E.P = Tryz.prog) {args : List AV} {Q : AV → Prop} (h : ∀ l, wpc E (frm l) ac74.body (retQ E (frm l) ac74.results fun r H' => hb 0 r = true ∧ Q r ∧ H' = frm l) ⟨enterTm args ac74.ntmps, frm l⟩) (hp : hbL 0 args = true := by rfl) : PCalls E 74 args Q :=
  PCalls.mk hp fun l => a74 hE (h l)
theorem c77 : cFn Tryz.prog (mtOf (Tryz.f77.body.getD .skip)) Tryz.f77 = some ac77 := by kernel_rfl
theorem a77 {E : Env} (hE : E.P = Tryz.prog) {args : List AV} {H : List Blk} {Q : AV → List Blk → Prop} (h : wpc E H ac77.body (retQ E H ac77.results Q) ⟨enterTm args ac77.ntmps, H⟩) : ACalls E 77 args H Q :=
  ACalls.enter (by rw [hE]; exact hm) (by rw [hE]; exact Tryz.func77) (by rw [hE]; exact c77) h
theorem p77 {E : Env} (hE : E.P = Tryz.prog) {args : List AV} {Q : AV → Prop} (h : ∀ l, wpc E (frm l) ac77.body (retQ E (frm l) ac77.results fun r H' => hb 0 r = true ∧ Q r ∧ H' = frm l) ⟨enterTm args ac77.ntmps, frm l⟩) (hp : hbL 0 args = true := by rfl) : PCalls E 77 args Q :=
  PCalls.mk hp fun l => a77 hE (h l)
theorem c78 : cFn Tryz.prog (mtOf (Tryz.f78.body.getD .skip)) Tryz.f78 = some ac78 := by kernel_rfl
theorem a78 {E : Env} (hE : E.P = Tryz.prog) {args : List AV} {H : List Blk} {Q : AV → List Blk → Prop} (h : wpc E H ac78.body (retQ E H ac78.results Q) ⟨enterTm args ac78.ntmps, H⟩) : ACalls E 78 args H Q :=
  ACalls.enter (by rw [hE]; exact hm) (by rw [hE]; exact Tryz.func78) (by rw [hE]; exact c78) h
theorem p78 {E : Env} (hE : E.P = Tryz.prog) {args : List AV} {Q : AV → Prop} (h : ∀ l, wpc E (frm l) ac78.body (retQ E (frm l) ac78.results fun r H' => hb 0 r = true ∧ Q r ∧ H' = frm l) ⟨enterTm args ac78.ntmps, frm l⟩) (hp : hbL 0 args = true := by rfl) : PCalls E 78 args Q :=
  PCalls.mk hp fun l => a78 hE (h l)
theorem c79 : cFn Tryz.prog (mtOf (Tryz.f79.body.getD .skip)) Tryz.f79 = some ac79 := by kernel_rfl
theorem a79 {E : Env} (hE : E.P = Tryz.prog) {args : List AV} {H : List Blk} {Q : AV → List Blk → Prop} (h : wpc E H ac79.body (retQ E H ac79.results Q) ⟨enterTm args ac79.ntmps, H⟩) : ACalls E 79 args H Q :=
  ACalls.enter (by rw [hE]; exact hm) (by rw [hE]; exact Tryz.func79) (by rw [hE]; exact c79) h
theorem p79 {E : Env} (hE : E.P = Tryz.prog) {args : List AV} {Q : AV → Prop} (h : ∀ l, wpc E (frm l) ac79.body (retQ E (frm l) ac79.results fun r H' => hb 0 r = true ∧ Q r ∧ H' = frm l) ⟨enterTm args ac79.ntmps, frm l⟩) (hp : hbL 0 args = true := by rfl) : PCalls E 79 args Q :=
  PCalls.mk hp fun l => a79 hE (h l)
theorem c84 : cFn Tryz.prog (mtOf (Tryz.f84.body.getD .skip)) Tryz.f84 = some ac84 := by kernel_rfl
theorem a84 {E : Env} (hE : E.P = Tryz.prog) {args : List AV} {H : List Blk} {Q : AV → List Blk → Prop} (h : wpc E H ac84.body (retQ E H ac84.results Q) ⟨enterTm args ac84.ntmps, H⟩) : ACalls E 84 args H Q :=
  ACalls.enter (by rw [hE]; exact hm) (by rw [hE]; exact Tryz.func84) (by rw [hE]; exact c84) h
theorem p84 {E : Env} (hE : E.P = Tryz.prog) {args : List AV} {Q : AV → Prop} (h : ∀ l, wpc E (frm l) ac84.body (retQ E (frm l) ac84.results fun r H' => hb 0 r = true ∧ Q r ∧ H' = frm l) ⟨enterTm args ac84.ntmps, frm l⟩) (hp : hbL 0 args = true := by rfl) : PCalls E 84 args Q :=
  PCalls.mk hp fun l => a84 hE (h l)
theorem c90 : cFn Tryz.prog (mtOf (Tryz.f90.body.getD .skip)) Tryz.f90 = some ac90 := by kernel_rfl
theorem a90 {E : Env} (hE : E.P = Tryz.prog) {args : List AV} {H : List Blk} {Q : AV → List Blk → Prop} (h : wpc E H ac90.body (retQ E H ac90.results Q) ⟨enterTm args ac90.ntmps, H⟩) : ACalls E 90 args H Q :=
  ACalls.enter (by rw [hE]; exact hm) (by rw [hE]; exact Tryz.func90) (by rw [hE]; exact c90) h
theorem p90 {E : Env} (hE : E.P = Tryz.prog) {args : List AV} {Q : AV → Prop} (h : ∀ l, wpc E (frm l) ac90.body (retQ E (frm l) ac90.results fun r H' => hb 0 r = true ∧ Q r ∧ H' = frm l) ⟨enterTm args ac90.ntmps, frm l⟩) (hp : hbL 0 args = true := by rfl) : PCalls E 90 args Q :=
  PCalls.mk hp fun l => a90 hE (h l)
theorem c91 : cFn Tryz.prog (mtOf (Tryz.f91.body.getD .skip)) Tryz.f91 = some ac91 := by kernel_rfl
theorem a91 {E : Env} (hE : E.P = Tryz.prog) {args : List AV} {H : List Blk} {Q : AV → List Blk → Prop} (h : wpc E H ac91.body (retQ E H ac91.results Q) ⟨enterTm args ac91.ntmps, H⟩) : ACalls E 91 args H Q :=
  ACalls.enter (by rw [hE]; exact hm) (by rw [hE]; exact Tryz.func91) (by rw [hE]; exact c91) h
theorem b91 {E : Env} (hE : E.P = Tryz.prog) {args : List AV} {ks : List BK} {Q : AV → List BK → Prop} (h : ∀ l, wpc E (frmB l ks) ac91.body (retQ E (frmB l ks) ac91.results (RB l ks Q)) ⟨enterTm args ac91.ntmps, frmB l ks⟩) : BCalls E 91 args ks Q :=
  BCalls.mk fun l => a91 hE (h l)
theorem c92 : cFn Tryz.prog (mtOf (Tryz.f92.body.getD .skip)) Tryz.f92 = some ac92 := by kernel_rfl
theorem a92 {E : Env} (hE : E.P = Tryz.prog) {args : List AV} {H : List Blk} {Q : AV → List Blk → Prop} (h : wpc E H ac92.body (retQ E H ac92.results Q) ⟨enterTm args ac92.ntmps, H⟩) : ACalls E 92 args H Q :=
  ACalls.enter (by rw [hE]; exact hm) (by rw [hE]; exact Tryz.func92) (by rw [hE]; exact c92) h
theorem p92 {E : Env} (hE : E.P = Tryz.prog) {args : List AV} {Q : AV → Prop} (h : ∀ l, wpc E (frm l) ac92.body (retQ E (frm l) ac92.results fun r H' => hb 0 r = true ∧ Q r ∧ H' = frm l) ⟨enterTm args ac92.ntmps, frm l⟩) (hp : hbL 0 args = true := by rfl) : PCalls E 92 args Q :=
  PCalls.mk hp fun l => a92 hE (h l)
theorem c93 : cFn Tryz.prog (mtOf (Tryz.f93.body.getD .skip)) Tryz.f93 = some ac93 := by kernel_rfl
theorem a93 {E : Env} (hE : E.P = Tryz.prog) {args : List AV} {H : List Blk} {Q : AV → List Blk → Prop} (h : wpc E H ac93.body (retQ E H ac93.results Q) ⟨enterTm args ac93.ntmps, H⟩) : ACalls E 93 args H Q :=
  ACalls.enter (by rw [hE]; exact hm) (by rw [hE]; exact Tryz.func93) (by rw [hE]; exact c93) h
theorem b93 {E : Env} (hE : E.P = Tryz.prog) {args : List AV} {ks : List BK} {Q : AV → List BK → Prop} (h : ∀ l, wpc E (frmB l ks) ac93.body (retQ E (frmB l ks) ac93.results (RB l ks Q)) ⟨enterTm args ac93.ntmps, frmB l ks⟩) : BCalls E 93 args ks Q :=
  BCalls.mk fun l => a93 hE (h l)
theorem c94 : cFn Tryz.prog (mtOf (Tryz.f94.body.getD .skip)) Tryz.f94 = some ac94 := by kernel_rfl
theorem a94 {E : Env} (hE : E.P = Tryz.prog) {args : List AV} {H : List Blk} {Q : AV → List Blk → Prop} (h : wpc E H ac94.body (retQ E H ac94.results Q) ⟨enterTm args ac94.ntmps, H⟩) : ACalls E 94 args H Q :=
  ACalls.enter (by rw [hE]; exact hm) (by rw [hE]; exact Tryz.func94) (by rw [hE]; exact c94) h
theorem b94 {E : Env} (hE : E.P = Tryz.prog) {args : List AV} {ks : List BK} {Q : AV → List BK → Prop} (h : ∀ l, wpc E (frmB l ks) ac94.body (retQ E (frmB l ks) ac94.results (RB l ks Q)) ⟨enterTm args ac94.ntmps, frmB l ks⟩) : BCalls E 94 args ks Q :=
  BCalls.mk fun l => a94 hE (h l)
theorem c95 : cFn Tryz.prog (mtOf (Tryz.f95.body.getD .skip)) Tryz.f95 = some ac95 := by kernel_rfl
theorem a95 {E : Env} (hE : E.P = Tryz.prog) {args : List AV} {H : List Blk} {Q : AV → List Blk → Prop} (h : wpc E H ac95.body (retQ E H ac95.results Q) ⟨enterTm args ac95.ntmps, H⟩) : ACalls E 95 args H Q :=
  ACalls.enter (by rw [hE]; exact hm) (by rw [hE]; exact Tryz.func95) (by rw [hE]; exact c95) h
theorem b95 {E : Env} (hE : E.P = Tryz.prog) {args : List AV} {ks : List BK} {Q : AV → List BK → Prop} (h : ∀ l, wpc E (frmB l ks) ac95.body (retQ E (frmB l ks) ac95.results (RB l ks Q)) ⟨enterTm args ac95.ntmps, frmB l ks⟩) : BCalls E 95 args ks Q :=
  BCalls.mk fun l => a95 hE (h l)
theorem c96 : cFn Tryz.prog (mtOf (Tryz.f96.body.getD .skip)) Tryz.f96 = some ac96 := by kernel_rfl
theorem a96 {E : Env} (hE : E.P = Tryz.prog) {args : List AV} {H : List Blk} {Q : AV → List Blk → Prop} (h : wpc E H ac96.body (retQ E H ac96.results Q) ⟨enterTm args ac96.ntmps, H⟩) : ACalls E 96 args H Q :=
  ACalls.enter (by rw [hE]; exact hm) (by rw [hE]; exact Tryz.func96) (by rw [hE]; exact c96) h
theorem p96 {E : Env} (hE : E.P = Tryz.prog) {args : List AV} {Q : AV → Prop} (h : ∀ l, wpc E (frm l) ac96.body (retQ E (frm l) ac96.results fun r H' => hb 0 r = true ∧ Q r ∧ H' = frm l) ⟨enterTm args ac96.ntmps, frm l⟩) (hp : hbL 0 args = true := by rfl) : PCalls E 96 args Q :=
  PCalls.mk hp fun l => a96 hE (h l)
theorem c98 : cFn Tryz.prog (mtOf (Tryz.f98.body.getD .skip)) Tryz.f98 = some ac98 := by kernel_rfl
theorem a98 {E : Env} (hE : E.P = Tryz.prog) {args : List AV} {H : List Blk} {Q : AV → List Blk → Prop} (h : wpc E H ac98.body (retQ E H ac98.results Q) ⟨enterTm args ac98.ntmps, H⟩) : ACalls E 98 args H Q :=
  ACalls.enter (by rw [hE]; exact hm) (by rw [hE]; exact Tryz.func98) (by rw [hE]; exact c98) h
theorem p98 {E : Env} (hE : E.P = Tryz.prog) {args : List AV} {Q : AV → Prop} (h : ∀ l, wpc E (frm l) ac98.body (retQ E (frm l) ac98.results fun r H' => hb 0 r = true ∧ Q r ∧ H' = frm l) ⟨enterTm args ac98.ntmps, frm l⟩) (hp : hbL 0 args = true := by rfl) : PCalls E 98 args Q :=
  PCalls.mk hp fun l => a98 hE (h l)
theorem c99 : cFn Tryz.prog (mtOf (Tryz.f99.body.getD .skip)) Tryz.f99 = some ac99 := by kernel_rfl
theorem a99 {E : Env} (hE : E.P = Tryz.prog) {args : List AV} {H : List Blk} {Q : AV → List Blk → Prop} (h : wpc E H ac99.body (retQ E H ac99.results Q) ⟨enterTm args ac99.ntmps, H⟩) : ACalls E 99 args H Q :=
  ACalls.enter (by rw [hE]; exact hm) (by rw [hE]; exact Tryz.func99) (by rw [hE]; exact c99) h
theorem p99 {E : Env} (hE : E.P = Tryz.prog) {args : List AV} {Q : AV → Prop} (h : ∀ l, wpc E (frm l) ac99.body (retQ E (frm l) ac99.results fun r H' => hb 0 r = true ∧ Q r ∧ H' = frm l) ⟨enterTm args ac99.ntmps, frm l⟩) (hp : hbL 0 args = true := by rfl) : PCalls E 99 args Q :=
  PCalls.mk hp fun l => a99 hE (h l)
theorem c100 : cFn Tryz.prog (mtOf (Tryz.f100.body.getD .skip)) Tryz.f100 = some ac100 := by kernel_rfl
theorem a100 {E : Env} (hE : E.P = Tryz.prog) {args : List AV} {H : List Blk} {Q : AV → List Blk → Prop} (h : wpc E H ac100.body (retQ E H ac100.results Q) ⟨enterTm args ac100.ntmps, H⟩) : ACalls E 100 args H Q :=
  ACalls.enter (by rw [hE]; exact hm) (by rw [hE]; exact Tryz.func100) (by rw [hE]; exact c100) h
theorem p100 {E : Env} (hE : E.P = Tryz.prog) {args : List AV} {Q : AV → Prop} (h : ∀ l, wpc E (frm l) ac100.body (retQ E (frm l) ac100.results fun r H' => hb 0 r = true ∧ Q r ∧ H' = frm l) ⟨enterTm args ac100.ntmps, frm l⟩) (hp : hbL 0 args = true := by rfl) : PCalls E 100 args Q :=
  PCalls.mk hp fun l => a100 hE (h l)
theorem c101 : cFn Tryz.prog (mtOf (Tryz.f101.body.getD .skip)) Tryz.f101 = some ac101 := by kernel_rfl
theorem a101 {E : Env} (hE : E.P = Tryz.prog) {args : List AV} {H : List Blk} {Q : AV → List Blk → Prop} (h : wpc E H ac101.body (retQ E H ac101.results Q) ⟨enterTm args ac101.ntmps, H⟩) : ACalls E 101 args H Q :=
  ACalls.enter (by rw [hE]; exact hm) (by rw [hE]; exact Tryz.func101) (by rw [hE]; exact c101) h
theorem p101 {E : Env} (hE : E.P = Tryz.prog) {args : List AV} {Q : AV → Prop} (h : ∀ l, wpc E (frm l) ac101.body (retQ E (frm l) ac101.results fun r H' => hb 0 r = true ∧ Q r ∧ H' = frm l) ⟨enterTm args ac101.ntmps, frm l⟩) (hp : hbL 0 args = true := by rfl) : PCalls E 101 args Q :=
  PCalls.mk hp fun l => a101 hE (h l)
theorem c103 : cFn Tryz.prog (mtOf (Tryz.f103.body.getD .skip)) Tryz.f103 = some ac103 := by kernel_rfl
theorem a103 {E : Env} (hE : E.P = Tryz.prog) {args : List AV} {H : List Blk} {Q : AV → List Blk → Prop} (h : wpc E H ac103.body (retQ E H ac103.results Q) ⟨enterTm args ac103.ntmps, H⟩) : ACalls E 103 args H Q :=
  ACalls.enter (by rw [hE]; exact hm) (by rw [hE]; exact Tryz.func103) (by rw [hE]; exact c103) h
theorem p103 {E : Env} (hE : E.P = Tryz.prog) {args : List AV} {Q : AV → Prop} (h : ∀ l, wpc E (frm l) ac103.body (retQ E (frm l) ac103.results fun r H' => hb 0 r = true ∧ Q r ∧ H' = frm l) ⟨enterTm args ac103.ntmps, frm l⟩) (hp : hbL 0 args = true := by rfl) : PCalls E 103 args Q :=
  PCalls.mk hp fun l => a103 hE (h l)
theorem c108 : cFn Tryz.prog (mtOf (Tryz.f108.body.getD .skip)) Tryz.f108 = some ac108 := by kernel_rfl
theorem a108 {E : Env} (hE : E.P = Tryz.prog) {args : List AV} {H : List Blk} {Q : AV → List Blk → Prop} (h : wpc E H ac108.body (retQ E H ac108.results Q) ⟨enterTm args ac108.ntmps, H⟩) : ACalls E 108 args H Q :=
  ACalls.enter (by rw [hE]; exact hm) (by rw [hE]; exact Tryz.func108) (by rw [hE]; exact c108) h
theorem p108 {E : Env} (hE : E.P = Tryz.prog) {args : List AV} {Q : AV → Prop} (h : ∀ l, wpc E (frm l) ac108.body (retQ E (frm l) ac108.results fun r H' => hb 0 r = true ∧ Q r ∧ H' = frm l) ⟨enterTm args ac108.ntmps, frm l⟩) (hp : hbL 0 args = true := by rfl) : PCalls E 108 args Q :=
  PCalls.mk hp fun l => a108 hE (h l)
theorem c109 : cFn Tryz.prog (mtOf (Tryz.f109.body.getD .skip)) Tryz.f109 = some ac109 := by kernel_rfl
theorem a109 {E : Env} (hE : E.P = Tryz.prog) {args : List AV} {H : List Blk} {Q : AV → List Blk → Prop} (h : wpc E H ac109.body (retQ E H ac109.results Q) ⟨enterTm args ac109.ntmps, H⟩) : ACalls E 109 args H Q :=
  ACalls.enter (by rw [hE]; exact hm) (by rw [hE]; exact Tryz.func109) (by rw [hE]; exact c109) h
theorem b109 {E : Env} (hE : E.P = Tryz.prog) {args : List AV} {ks : List BK} {Q : AV → List BK → Prop} (h : ∀ l, wpc E (frmB l ks) ac109.body (retQ E (frmB l ks) ac109.results (RB l ks Q)) ⟨enterTm args ac109.ntmps, frmB l ks⟩) : BCalls E 109 args ks Q :=
  BCalls.mk fun l => a109 hE (h l)
theorem c111 : cFn Tryz.prog (mtOf (Tryz.f111.body.getD .skip)) Tryz.f111 = some ac111 := by kernel_rfl
theorem a111 {E : Env} (hE : E.P = Tryz.prog) {args : List AV} {H : List Blk} {Q : AV → List Blk → Prop} (h : wpc E H ac111.body (retQ E H ac111.results Q) ⟨enterTm args ac111.ntmps, H⟩) : ACalls E 111 args H Q :=
  ACalls.enter (by rw [hE]; exact hm) (by rw [hE]; exact Tryz.func111) (by rw [hE]; exact c111) h
theorem p111 {E : Env} (hE : E.P = Tryz.prog) {args : List AV} {Q : AV → Prop} (h : ∀ l, wpc E (frm l) ac111.body (retQ E (frm l) ac111.results fun r H' => hb 0 r = true ∧ Q r ∧ H' = frm l) ⟨enterTm args ac111.ntmps, frm l⟩) (hp : hbL 0 args = true := by rfl) : PCalls E 111 args Q :=
  PCalls.mk hp fun l => a111 hE (h l)
theorem c112 : cFn Tryz.prog (mtOf (Tryz.f112.body.getD .skip)) Tryz.f112 = some ac112 := by kernel_rfl
theorem a112 {E : Env} (hE : E.P = Tryz.prog) {args : List AV} {H : List Blk} {Q : AV → List Blk → Prop} (h : wpc E H ac112.body (retQ E H ac112.results Q) ⟨enterTm args ac112.ntmps, H⟩) : ACalls E 112 args H Q :=
  ACalls.enter (by rw [hE]; exact hm) (by rw [hE]; exact Tryz.func112) (by rw [hE]; exact c112) h
theorem p112 {E : Env} (hE : E.P = Tryz.prog) {args : List AV} {Q : AV → Prop} (h : ∀ l, wpc E (frm l) ac112.body (retQ E (frm l) ac112.results fun r H' => hb 0 r = true ∧ Q r ∧ H' = frm l) ⟨enterTm args ac112.ntmps, frm l⟩) (hp : hbL 0 args = true := by rfl) : PCalls E 112 args Q :=
  PCalls.mk hp fun l => a112 hE (h l)
theorem c117 : cFn Tryz.prog (mtOf (Tryz.f117.body.getD .skip)) Tryz.f117 = some ac117 := by kernel_rfl
theorem a117 {E : Env} (hE : E.P = Tryz.prog) {args : List AV} {H : List Blk} {Q : AV → List Blk → Prop} (h : wpc E H ac117.body (retQ E H ac117.results Q) ⟨enterTm args ac117.ntmps, H⟩) : ACalls E 117 args H Q :=
  ACalls.enter (by rw [hE]; exact hm) (by rw [hE]; exact Tryz.func117) (by rw [hE]; exact c117) h
theorem p117 {E : Env} (hE : E.P = Tryz.prog) {args : List AV} {Q : AV → Prop} (h : ∀ l, wpc E (frm l) ac117.body (retQ E (frm l) ac117.results fun r H' => hb 0 r = true ∧ Q r ∧ H' = frm l) ⟨enterTm args ac117.ntmps, frm l⟩) (hp : hbL 0 args = true := by rfl) : PCalls E 117 args Q :=
  PCalls.mk hp fun l => a117 hE (h l)
theorem c118 : cFn Tryz.prog (mtOf (Tryz.f118.body.getD .skip)) Tryz.f118 = some ac118 := by kernel_rfl
theorem a118 {E : Env} (hE : E.P = Tryz.prog) {args : List AV} {H : List Blk} {Q : AV → List Blk → Prop} (h : wpc E H ac118.body (retQ E H ac118.results Q) ⟨enterTm args ac118.ntmps, H⟩) : ACalls E 118 args H Q :=
  ACalls.enter (by rw [hE]; exact hm) (by rw [hE]; exact Tryz.func118) (by rw [hE]; exact c118) h
theorem p118 {E : Env} (hE : E.P = Tryz.prog) {args : List AV} {Q : AV → Prop} (h : ∀ l, wpc E (frm l) ac118.body (retQ E (frm l) ac118.results fun r H' => hb 0 r = true ∧ Q r ∧ H' = frm l) ⟨enterTm args ac118.ntmps, frm l⟩) (hp : hbL 0 args = true := by rfl) : PCalls E 118 args Q :=
  PCalls.mk hp fun l => a118 hE (h l)
theorem c119 : cFn Tryz.prog (mtOf (Tryz.f119.body.getD .skip)) Tryz.f119 = some ac119 := by kernel_rfl
theorem a119 {E : Env} (hE : E.P = Tryz.prog) {args : List AV} {H : List Blk} {Q : AV → List Blk → Prop} (h : wpc E H ac119.body (retQ E H ac119.results Q) ⟨enterTm args ac119.ntmps, H⟩) : ACalls E 119 args H Q :=
  ACalls.enter (by rw [hE]; exact hm) (by rw [hE]; exact Tryz.func119) (by rw [hE]; exact c119) h
theorem p119 {E : Env} (hE : E.P = Tryz.prog) {args : List AV} {Q : AV → Prop} (h : ∀ l, wpc E (frm l) ac119.body (retQ E (frm l) ac119.results fun r H' => hb 0 r = true ∧ Q r ∧ H' = frm l) ⟨enterTm args ac119.ntmps, frm l⟩) (hp : hbL 0 args = true := by rfl) : PCalls E 119 args Q :=
  PCalls.mk hp fun l => a119 hE (h l)
theorem c121 : cFn Tryz.prog (mtOf (Tryz.f121.body.getD .skip)) Tryz.f121 = some ac121 := by kernel_rfl
theorem a121 {E : Env} (hE : E.P = Tryz.prog) {args : List AV} {H : List Blk} {Q : AV → List Blk → Prop} (h : wpc E H ac121.body (retQ E H ac121.results Q) ⟨enterTm args ac121.ntmps, H⟩) : ACalls E 121 args H Q :=
  ACalls.enter (by rw [hE]; exact hm) (by rw [hE]; exact Tryz.func121) (by rw [hE]; exact c121) h
theorem p121 {E : Env} (hE : E.P = Tryz.prog) {args : List AV} {Q : AV → Prop} (h : ∀ l, wpc E (frm l) ac121.body (retQ E (frm l) ac121.results fun r H' => hb 0 r = true ∧ Q r ∧ H' = frm l) ⟨enterTm args ac121.ntmps, frm l⟩) (hp : hbL 0 args = true := by rfl) : PCalls E 121 args Q :=
  PCalls.mk hp fun l => a121 hE (h l)
theorem c126 : cFn Tryz.prog (mtOf (Tryz.f126.body.getD .skip)) Tryz.f126 = some ac126 := by kernel_rfl
theorem a126 {E : Env} (hE : E.P = Tryz.prog) {args : List AV} {H : List Blk} {Q : AV → List Blk → Prop} (h : wpc E H ac126.body (retQ E H ac126.results Q) ⟨enterTm args ac126.ntmps, H⟩) : ACalls E 126 args H Q :=
  ACalls.enter (by rw [hE]; exact hm) (by rw [hE]; exact Tryz.func126) (by rw [hE]; exact c126) h
theorem b126 {E : Env} (hE : E.P = Tryz.prog) {args : List AV} {ks : List BK} {Q : AV → List BK → Prop} (h : ∀ l, wpc E (frmB l ks) ac126.body (retQ E (frmB l ks) ac126.results (RB l ks Q)) ⟨enterTm args ac126.ntmps, frmB l ks⟩) : BCalls E 126 args ks Q :=
  BCalls.mk fun l => a126 hE (h l)
theorem c134 : cFn Tryz.prog (mtOf (Tryz.f134.body.getD .skip)) Tryz.f134 = some ac134 := by kernel_rfl
theorem a134 {E : Env} (hE : E.P = Tryz.prog) {args : List AV} {H : List Blk} {Q : AV → List Blk → Prop} (h : wpc E H ac134.body (retQ E H ac134.results Q) ⟨enterTm args ac134.ntmps, H⟩) : ACalls E 134 args H Q :=
  ACalls.enter (by rw [hE]; exact hm) (by rw [hE]; exact Tryz.func134) (by rw [hE]; exact c134) h
theorem p134 {E : Env} (hE : E.P = Tryz.prog) {args : List AV} {Q : AV → Prop} (h : ∀ l, wpc E (frm l) ac134.body (retQ E (frm l) ac134.results fun r H' => hb 0 r = true ∧ Q r ∧ H' = frm l) ⟨enterTm args ac134.ntmps, frm l⟩) (hp : hbL 0 args = true := by rfl) : PCalls E 134 args Q :=
  PCalls.mk hp fun l => a134 hE (h l)
theorem c135 : cFn Tryz.prog (mtOf (Tryz.f135.body.getD .skip)) Tryz.f135 = some ac135 := by kernel_rfl
theorem a135 {E : Env} (hE : E.P = Tryz.prog) {args : List AV} {H : List Blk} {Q : AV → List Blk → Prop} (h : wpc E H ac135.body (retQ E H ac135.results Q) ⟨enterTm args ac135.ntmps, H⟩) : ACalls E 135 args H Q :=
  ACalls.enter (by rw [hE]; exact hm) (by rw [hE]; exact Tryz.func135) (by rw [hE]; exact c135) h
theorem p135 {E : Env} (hE : E.P = Tryz.prog) {args : List AV} {Q : AV → Prop} (h : ∀ l, wpc E (frm l) ac135.body (retQ E (frm l) ac135.results fun r H' => hb 0 r = true ∧ Q r ∧ H' = frm l) ⟨enterTm args ac135.ntmps, frm l⟩) (hp : hbL 0 args = true := by rfl) : PCalls E 135 args Q :=
  PCalls.mk hp fun l => a135 hE (h l)
theorem c136 : cFn Tryz.prog (mtOf (Tryz.f136.body.getD .skip)) Tryz.f136 = some ac136 := by kernel_rfl
theorem a136 {E : Env} (hE : E.P = Tryz.prog) {args : List AV} {H : List Blk} {Q : AV → List Blk → Prop} (h : wpc E H ac136.body (retQ E H ac136.results Q) ⟨enterTm args ac136.ntmps, H⟩) : ACalls E 136 args H Q :=
  ACalls.enter (by rw [hE]; exact hm) (by rw [hE]; exact Tryz.func136) (by rw [hE]; exact c136) h
theorem p136 {E : Env} (hE : E.P = Tryz.prog) {args : List AV} {Q : AV → Prop} (h : ∀ l, wpc E (frm l) ac136.body (retQ E (frm l) ac136.results fun r H' => hb 0 r = true ∧ Q r ∧ H' = frm l) ⟨enterTm args ac136.ntmps, frm l⟩) (hp : hbL 0 args = true := by rfl) : PCalls E 136 args Q :=
  PCalls.mk hp fun l => a136 hE (h l)
theorem c137 : cFn Tryz.prog (mtOf (Tryz.f137.body.getD .skip)) Tryz.f137 = some ac137 := by kernel_rfl
theorem a137 {E : Env} (hE : E.P = Tryz.prog) {args : List AV} {H : List Blk} {Q : AV → List Blk → Prop} (h : wpc E H ac137.body (retQ E H ac137.results Q) ⟨enterTm args ac137.ntmps, H⟩) : ACalls E 137 args H Q :=
  ACalls.enter (by rw [hE]; exact hm) (by rw [hE]; exact Tryz.func137) (by rw [hE]; exact c137) h
theorem p137 {E : Env} (hE : E.P = Tryz.prog) {args : List AV} {Q : AV → Prop} (h : ∀ l, wpc E (frm l) ac137.body (retQ E (frm l) ac137.results fun r H' => hb 0 r = true ∧ Q r ∧ H' = frm l) ⟨enterTm args ac137.ntmps, frm l⟩) (hp : hbL 0 args = true := by rfl) : PCalls E 137 args Q :=
  PCalls.mk hp fun l => a137 hE (h l)
theorem c138 : cFn Tryz.prog (mtOf (Tryz.f138.body.getD .skip)) Tryz.f138 = some ac138 := by kernel_rfl
theorem a138 {E : Env} (hE : E.P = Tryz.prog) {args : List AV} {H : List Blk} {Q : AV → List Blk → Prop} (h : wpc E H ac138.body (retQ E H ac138.results Q) ⟨enterTm args ac138.ntmps, H⟩) : ACalls E 138 args H Q :=
  ACalls.enter (by rw [hE]; exact hm) (by rw [hE]; exact Tryz.func138) (by rw [hE]; exact c138) h
theorem p138 {E : Env} (hE : E.P = Tryz.prog) {args : List AV} {Q : AV → Prop} (h : ∀ l, wpc E (frm l) ac138.body (retQ E (frm l) ac138.results fun r H' => hb 0 r = true ∧ Q r ∧ H' = frm l) ⟨enterTm args ac138.ntmps, frm l⟩) (hp : hbL 0 args = true := by rfl) : PCalls E 138 args Q :=
  PCalls.mk hp fun l => a138 hE (h l)
theorem c139 : cFn Tryz.prog (mtOf (Tryz.f139.body.getD .skip)) Tryz.f139 = some ac139 := by kernel_rfl
theorem a139 {E : Env} (hE : E.P = Tryz.prog) {args : List AV} {H : List Blk} {Q : AV → List Blk → Prop} (h : wpc E H ac139.body (retQ E H ac139.results Q) ⟨enterTm args ac139.ntmps, H⟩) : ACalls E 139 args H Q :=
  ACalls.enter (by rw [hE]; exact hm) (by rw [hE]; exact Tryz.func139) (by rw [hE]; exact c139) h
theorem p139 {E : Env} (hE : E.P = Tryz.prog) {args : List AV} {Q : AV → Prop} (h : ∀ l, wpc E (frm l) ac139.body (retQ E (frm l) ac139.results fun r H' => hb 0 r = true ∧ Q r ∧ H' = frm l) ⟨enterTm args ac139.ntmps, frm l⟩) (hp : hbL 0 args = true := by rfl) : PCalls E 139 args Q :=
  PCalls.mk hp fun l => a139 hE (h l)
theorem c146 : cFn Tryz.prog (mtOf (Tryz.f146.body.getD .skip)) Tryz.f146 = some ac146 := by kernel_rfl
theorem a146 {E : Env} (hE : E.P = Tryz.prog) {args : List AV} {H : List Blk} {Q : AV → List Blk → Prop} (h : wpc E H ac146.body (retQ E H ac146.results Q) ⟨enterTm args ac146.ntmps, H⟩) : ACalls E 146 args H Q :=
  ACalls.enter (by rw [hE]; exact hm) (by rw [hE]; exact Tryz.func146) (by rw [hE]; exact c146) h
theorem p146 {E : Env} (hE : E.P = Tryz.prog) {args : List AV} {Q : AV → Prop} (h : ∀ l, wpc E (frm l) ac146.body (retQ E (frm l) ac146.results fun r H' => hb 0 r = true ∧ Q r ∧ H' = frm l) ⟨enterTm args ac146.ntmps, frm l⟩) (hp : hbL 0 args = true := by rfl) : PCalls E 146 args Q :=
  PCalls.mk hp fun l => a146 hE (h l)
theorem c147 : cFn Tryz.prog (mtOf (Tryz.f147.body.getD .skip)) Tryz.f147 = some ac147 := by kernel_rfl
theorem a147 {E : Env} (hE : E.P = Tryz.prog) {args : List AV} {H : List Blk} {Q : AV → List Blk → Prop} (h : wpc E H ac147.body (retQ E H ac147.results Q) ⟨enterTm args ac147.ntmps, H⟩) : ACalls E 147 args H Q :=
  ACalls.enter (by rw [hE]; exact hm) (by rw [hE]; exact Tryz.func147) (by rw [hE]; exact c147) h
theorem b147 {E : Env} (hE : E.P = Tryz.prog) {args : List AV} {ks : List BK} {Q : AV → List BK → Prop} (h : ∀ l, wpc E (frmB l ks) ac147.body (retQ E (frmB l ks) ac147.results (RB l ks Q)) ⟨enterTm args ac147.ntmps, frmB l ks⟩) : BCalls E 147 args ks Q :=
  BCalls.mk fun l => a147 hE (h l)
theorem c148 : cFn Tryz.prog (mtOf (Tryz.f148.body.getD .skip)) Tryz.f148 = some ac148 := by kernel_rfl
theorem a148 {E : Env} (hE : E.P = Tryz.prog) {args : List AV} {H : List Blk} {Q : AV → List Blk → Prop} (h : wpc E H ac148.body (retQ E H ac148.results Q) ⟨enterTm args ac148.ntmps, H⟩) : ACalls E 148 args H Q :=
  ACalls.enter (by rw [hE]; exact hm) (by rw [hE]; exact Tryz.func148) (by rw [hE]; exact c148) h
theorem p148 {E : Env} (hE : E.P = Tryz.prog) {args : List AV} {Q : AV → Prop} (h : ∀ l, wpc E (frm l) ac148.body (retQ E (frm l) ac148.results fun r H' => hb 0 r = true ∧ Q r ∧ H' = frm l) ⟨enterTm args ac148.ntmps, frm l⟩) (hp : hbL 0 args = true := by rfl) : PCalls E 148 args Q :=
  PCalls.mk hp fun l => a148 hE (h l)
theorem c149 : cFn Tryz.prog (mtOf (Tryz.f149.body.getD .skip)) Tryz.f149 = some ac149 := by kernel_rfl
theorem a149 {E : Env} (hE : E.P = Tryz.prog) {args : List AV} {H : List Blk} {Q : AV → List Blk → Prop} (h : wpc E H ac149.body (retQ E H ac149.results Q) ⟨enterTm args ac149.ntmps, H⟩) : ACalls E 149 args H Q :=
  ACalls.enter (by rw [hE]; exact hm) (by rw [hE]; exact Tryz.func149) (by rw [hE]; exact c149) h
theorem p149 {E : Env} (hE : E.P = Tryz.prog) {args : List AV} {Q : AV → Prop} (h : ∀ l, wpc E (frm l) ac149.body (retQ E (frm l) ac149.results fun r H' => hb 0 r = true ∧ Q r ∧ H' = frm l) ⟨enterTm args ac149.ntmps, frm l⟩) (hp : hbL 0 args = true := by rfl) : PCalls E 149 args Q :=
  PCalls.mk hp fun l => a149 hE (h l)
theorem c150 : cFn Tryz.prog (mtOf (Tryz.f150.body.getD .skip)) Tryz.f150 = some ac150 := by kernel_rfl
theorem a150 {E : Env} (hE : E.P = Tryz.prog) {args : List AV} {H : List Blk} {Q : AV → List Blk → Prop} (h : wpc E H ac150.body (retQ E H ac150.results Q) ⟨enterTm args ac150.ntmps, H⟩) : ACalls E 150 args H Q :=
  ACalls.enter (by rw [hE]; exact hm) (by rw [hE]; exact Tryz.func150) (by rw [hE]; exact c150) h
theorem p150 {E : Env} (hE : E.P = Tryz.prog) {args : List AV} {Q : AV → Prop} (h : ∀ l, wpc E (frm l) ac150.body (retQ E (frm l) ac150.results fun r H' => hb 0 r = true ∧ Q r ∧ H' = frm l) ⟨enterTm args ac150.ntmps, frm l⟩) (hp : hbL 0 args = true := by rfl) : PCalls E 150 args Q :=
  PCalls.mk hp fun l => a150 hE (h l)
theorem c155 : cFn Tryz.prog (mtOf (Tryz.f155.body.getD .skip)) Tryz.f155 = some ac155 := by kernel_rfl
theorem a155 {E : Env} (hE : E.P = Tryz.prog) {args : List AV} {H : List Blk} {Q : AV → List Blk → Prop} (h : wpc E H ac155.body (retQ E H ac155.results Q) ⟨enterTm args ac155.ntmps, H⟩) : ACalls E 155 args H Q :=
  ACalls.enter (by rw [hE]; exact hm) (by rw [hE]; exact Tryz.func155) (by rw [hE]; exact c155) h
theorem p155 {E : Env} (hE : E.P = Tryz.prog) {args : List AV} {Q : AV → Prop} (h : ∀ l, wpc E (frm l) ac155.body (retQ E (frm l) ac155.results fun r H' => hb 0 r = true ∧ Q r ∧ H' = frm l) ⟨enterTm args ac155.ntmps, frm l⟩) (hp : hbL 0 args = true := by rfl) : PCalls E 155 args Q :=
  PCalls.mk hp fun l => a155 hE (h l)
theorem c156 : cFn Tryz.prog (mtOf (Tryz.f156.body.getD .skip)) Tryz.f156 = some ac156 := by kernel_rfl
theorem a156 {E : Env} (hE : E.P = Tryz.prog) {args : List AV} {H : List Blk} {Q : AV → List Blk → Prop} (h : wpc E H ac156.body (retQ E H ac156.results Q) ⟨enterTm args ac156.ntmps, H⟩) : ACalls E 156 args H Q :=
  ACalls.enter (by rw [hE]; exact hm) (by rw [hE]; exact Tryz.func156) (by rw [hE]; exact c156) h
theorem p156 {E : Env} (hE : E.P = Tryz.prog) {args : List AV} {Q : AV → Prop} (h : ∀ l, wpc E (frm l) ac156.body (retQ E (frm l) ac156.results fun r H' => hb 0 r = true ∧ Q r ∧ H' = frm l) ⟨enterTm args ac156.ntmps, frm l⟩) (hp : hbL 0 args = true := by rfl) : PCalls E 156 args Q :=
  PCalls.mk hp fun l => a156 hE (h l)
theorem c157 : cFn Tryz.prog (mtOf (Tryz.f157.body.getD .skip)) Tryz.f157 = some ac157 := by kernel_rfl
theorem a157 {E : Env} (hE : E.P = Tryz.prog) {args : List AV} {H : List Blk} {Q : AV → List Blk → Prop} (h : wpc E H ac157.body (retQ E H ac157.results Q) ⟨enterTm args ac157.ntmps, H⟩) : ACalls E 157 args H Q :=
  ACalls.enter (by rw [hE]; exact hm) (by rw [hE]; exact Tryz.func157) (by rw [hE]; exact c157) h
theorem p157 {E : Env} (hE : E.P = Tryz.prog) {args : List AV} {Q : AV → Prop} (h : ∀ l, wpc E (frm l) ac157.body (retQ E (frm l) ac157.results fun r H' => hb 0 r = true ∧ Q r ∧ H' = frm l) ⟨enterTm args ac157.ntmps, frm l⟩) (hp : hbL 0 args = true := by rfl) : PCalls E 157 args Q :=
  PCalls.mk hp fun l => a157 hE (h l)
theorem c158 : cFn Tryz.prog (mtOf (Tryz.f158.body.getD .skip)) Tryz.f158 = some ac158 := by kernel_rfl
theorem a158 {E : Env} (hE : E.P = Tryz.prog) {args : List AV} {H : List Blk} {Q : AV → List Blk → Prop} (h : wpc E H ac158.body (retQ E H ac158.results Q) ⟨enterTm args ac158.ntmps, H⟩) : ACalls E 158 args H Q :=
  ACalls.enter (by rw [hE]; exact hm) (by rw [hE]; exact Tryz.func158) (by rw [hE]; exact c158) h
theorem p158 {E : Env} (hE : E.P = Tryz.prog) {args : List AV} {Q : AV → Prop} (h : ∀ l, wpc E (frm l) ac158.body (retQ E (frm l) ac158.results fun r H' => hb 0 r = true ∧ Q r ∧ H' = frm l) ⟨enterTm args ac158.ntmps, frm l⟩) (hp : hbL 0 args = true := by rfl) : PCalls E 158 args Q :=
  PCalls.mk hp fun l => a158 hE (h l)
theorem c159 : cFn Tryz.prog (mtOf (Tryz.f159.body.getD .skip)) Tryz.f159 = some ac159 := by kernel_rfl
theorem a159 {E : Env} (hE : E.P = Tryz.prog) {args : List AV} {H : List Blk} {Q : AV → List Blk → Prop} (h : wpc E H ac159.body (retQ E H ac159.results Q) ⟨enterTm args ac159.ntmps, H⟩) : ACalls E 159 args H Q :=
  ACalls.enter (by rw [hE]; exact hm) (by rw [hE]; exact Tryz.func159) (by rw [hE]; exact c159) h
theorem p159 {E : Env} (hE : E.P = Tryz.prog) {args : List AV} {Q : AV → Prop} (h : ∀ l, wpc E (frm l) ac159.body (retQ E (frm l) ac159.results fun r H' => hb 0 r = true ∧ Q r ∧ H' = frm l) ⟨enterTm args ac159.ntmps, frm l⟩) (hp : hbL 0 args = true := by rfl) : PCalls E 159 args Q :=
  PCalls.mk hp fun l => a159 hE (h l)
theorem c160 : cFn Tryz.prog (mtOf (Tryz.f160.body.getD .skip)) Tryz.f160 = some ac160 := by kernel_rfl
theorem a160 {E : Env} (hE : E.P = Tryz.prog) {args : List AV} {H : List Blk} {Q : AV → List Blk → Prop} (h : wpc E H ac160.body (retQ E H ac160.results Q) ⟨enterTm args ac160.ntmps, H⟩) : ACalls E 160 args H Q :=
  ACalls.enter (by rw [hE]; exact hm) (by rw [hE]; exact Tryz.func160) (by rw [hE]; exact c160) h
theorem p160 {E : Env} (hE : E.P = Tryz.prog) {args : List AV} {Q : AV → Prop} (h : ∀ l, wpc E (frm l) ac160.body (retQ E (frm l) ac160.results fun r H' => hb 0 r = true ∧ Q r ∧ H' = frm l) ⟨enterTm args ac160.ntmps, frm l⟩) (hp : hbL 0 args = true := by rfl) : PCalls E 160 args Q :=
  PCalls.mk hp fun l => a160 hE (h l)
theorem c161 : cFn Tryz.prog (mtOf (Tryz.f161.body.getD .skip)) Tryz.f161 = some ac161 := by kernel_rfl
theorem a161 {E : Env} (hE : E.P = Tryz.prog) {args : List AV} {H : List Blk} {Q : AV → List Blk → Prop} (h : wpc E H ac161.body (retQ E H ac161.results Q) ⟨enterTm args ac161.ntmps, H⟩) : ACalls E 161 args H Q :=
  ACalls.enter (by rw [hE]; exact hm) (by rw [hE]; exact Tryz.func161) (by rw [hE]; exact c161) h
theorem p161 {E : Env} (hE : E.P = Tryz.prog) {args : List AV} {Q : AV → Prop} (h : ∀ l, wpc E (frm l) ac161.body (retQ E (frm l) ac161.results fun r H' => hb 0 r = true ∧ Q r ∧ H' = frm l) ⟨enterTm args ac161.ntmps, frm l⟩) (hp : hbL 0 args = true := by rfl) : PCalls E 161 args Q :=
  PCalls.mk hp fun l => a161 hE (h l)
theorem c162 : cFn Tryz.prog (mtOf (Tryz.f162.body.getD .skip)) Tryz.f162 = some ac162 := by kernel_rfl
theorem a162 {E : Env} (hE : E.P = Tryz.prog) {args : List AV} {H : List Blk} {Q : AV → List Blk → Prop} (h : wpc E H ac162.body (retQ E H ac162.results Q) ⟨enterTm args ac162.ntmps, H⟩) : ACalls E 162 args H Q :=
  ACalls.enter (by rw [hE]; exact hm) (by rw [hE]; exact Tryz.func162) (by rw [hE]; exact c162) h
theorem p162 {E : Env} (hE : E.P = Tryz.prog) {args : List AV} {Q : AV → Prop} (h : ∀ l, wpc E (frm l) ac162.body (retQ E (frm l) ac162.results fun r H' => hb 0 r = true ∧ Q r ∧ H' = frm l) ⟨enterTm args ac162.ntmps, frm l⟩) (hp : hbL 0 args = true := by rfl) : PCalls E 162 args Q :=
  PCalls.mk hp fun l => a162 hE (h l)
theorem c163 : cFn Tryz.prog (mtOf (Tryz.f163.body.getD .skip)) Tryz.f163 = some ac163 := by kernel_rfl
theorem a163 {E : Env} (hE : E.P = Tryz.prog) {args : List AV} {H : List Blk} {Q : AV → List Blk → Prop} (h : wpc E H ac163.body (retQ E H ac163.results Q) ⟨enterTm args ac163.ntmps, H⟩) : ACalls E 163 args H Q :=
  ACalls.enter (by rw [hE]; exact hm) (by rw [hE]; exact Tryz.func163) (by rw [hE]; exact c163) h
theorem p163 {E : Env} (hE : E.P = Tryz.prog) {args : List AV} {Q : AV → Prop} (h : ∀ l, wpc E (frm l) ac163.body (retQ E (frm l) ac163.results fun r H' => hb 0 r = true ∧ Q r ∧ H' = frm l) ⟨enterTm args ac163.ntmps, frm l⟩) (hp : hbL 0 args = true := by rfl) : PCalls E 163 args Q :=
  PCalls.mk hp fun l => a163 hE (h l)
theorem c164 : cFn Tryz.prog (mtOf (Tryz.f164.body.getD .skip)) Tryz.f164 = some ac164 := by kernel_rfl
theorem a164 {E : Env} (hE : E.P = Tryz.prog) {args : List AV} {H : List Blk} {Q : AV → List Blk → Prop} (h : wpc E H ac164.body (retQ E H ac164.results Q) ⟨enterTm args ac164.ntmps, H⟩) : ACalls E 164 args H Q :=
  ACalls.enter (by rw [hE]; exact hm) (by rw [hE]; exact Tryz.func164) (by rw [hE]; exact c164) h
theorem p164 {E : Env} (hE : E.P = Tryz.prog) {args : List AV} {Q : AV → Prop} (h : ∀ l, wpc E (frm l) ac164.body (retQ E (frm l) ac164.results fun r H' => hb 0 r = true ∧ Q r ∧ H' = frm l) ⟨enterTm args ac164.ntmps, frm l⟩) (hp : hbL 0 args = true := by rfl) : PCalls E 164 args Q :=
  PCalls.mk hp fun l => a164 hE (h l)
theorem c165 : cFn Tryz.prog (mtOf (Tryz.f165.body.getD .skip)) Tryz.f165 = some ac165 := by kernel_rfl
theorem a165 {E : Env} (hE : E.P = Tryz.prog) {args : List AV} {H : List Blk} {Q : AV → List Blk → Prop} (h : wpc E H ac165.body (retQ E H ac165.results Q) ⟨enterTm args ac165.ntmps, H⟩) : ACalls E 165 args H Q :=
  ACalls.enter (by rw [hE]; exact hm) (by rw [hE]; exact Tryz.func165) (by rw [hE]; exact c165) h
theorem p165 {E : Env} (hE : E.P = Tryz.prog) {args : List AV} {Q : AV → Prop} (h : ∀ l, wpc E (frm l) ac165.body (retQ E (frm l) ac165.results fun r H' => hb 0 r = true ∧ Q r ∧ H' = frm l) ⟨enterTm args ac165.ntmps, frm l⟩) (hp : hbL 0 args = true := by rfl) : PCalls E 165 args Q :=
  PCalls.mk hp fun l => a165 hE (h l)
theorem c166 : cFn Tryz.prog (mtOf (Tryz.f166.body.getD .skip)) Tryz.f166 = some ac166 := by kernel_rfl
theorem a166 {E : Env} (hE : E.P = Tryz.prog) {args : List AV} {H : List Blk} {Q : AV → List Blk → Prop} (h : wpc E H ac166.body (retQ E H ac166.results Q) ⟨enterTm args ac166.ntmps, H⟩) : ACalls E 166 args H Q :=
  ACalls.enter (by rw [hE]; exact hm) (by rw [hE]; exact Tryz.func166) (by rw [hE]; exact c166) h
theorem p166 {E : Env} (hE : E.P = Tryz.prog) {args : List AV} {Q : AV → Prop} (h : ∀ l, wpc E (frm l) ac166.body (retQ E (frm l) ac166.results fun r H' => hb 0 r = true ∧ Q r ∧ H' = frm l) ⟨enterTm args ac166.ntmps, frm l⟩) (hp : hbL 0 args = true := by rfl) : PCalls E 166 args Q :=
  PCalls.mk hp fun l => a166 hE (h l)
theorem c168 : cFn Tryz.prog (mtOf (Tryz.f168.body.getD .skip)) Tryz.f168 = some ac168 := by kernel_rfl
theorem a168 {E : Env} (hE : E.P = Tryz.prog) {args : List AV} {H : List Blk} {Q : AV → List Blk → Prop} (h : wpc E H ac168.body (retQ E H ac168.results Q) ⟨enterTm args ac168.ntmps, H⟩) : ACalls E 168 args H Q :=
  ACalls.enter (by rw [hE]; exact hm) (by rw [hE]; exact Tryz.func168) (by rw [hE]; exact c168) h
theorem b168 {E : Env} (hE : E.P = Tryz.prog) {args : List AV} {ks : List BK} {Q : AV → List BK → Prop} (h : ∀ l, wpc E (frmB l ks) ac168.body (retQ E (frmB l ks) ac168.results (RB l ks Q)) ⟨enterTm args ac168.ntmps, frmB l ks⟩) : BCalls E 168 args ks Q :=
  BCalls.mk fun l => a168 hE (h l)
end Ink.D

namespace Ink.D
open Go Go.Proofs Go.RowKit
set_option maxRecDepth 100000
set_option linter.unusedVariables false

theorem tB : Tryz.prog.underlying 56 = some (.pointer 59) := by kernel_rfl
theorem tU : Tryz.prog.underlying 106 = some .unsafePointer := by kernel_rfl
theorem iB : ∃ j, Tryz.prog.info? 59 = some j ∧ j.size = 2 := ⟨(Tryz.prog.info? 59).get (by kernel_rfl), by kernel_rfl, by kernel_rfl⟩
theorem lB : liesAt Tryz.prog Tryz.prog.depth 59 (2 / Tryz.prog.cellsOf 59) 0 59 1 = true := by kernel_rfl

theorem t41 : Tryz.prog.underlying 57 = some (.slice 5) := by kernel_rfl
theorem t119 : Tryz.prog.underlying 87 = some (.pointer 5) := by kernel_rfl
theorem t3 : Tryz.prog.underlying 3 = some (.int .i64) := by kernel_rfl
theorem t9 : Tryz.prog.underlying 9 = some .string := by kernel_rfl
theorem t5 : Tryz.prog.underlying 5 = some (.int .u8) := by kernel_rfl
theorem cells5 : Tryz.prog.cellsOf 5 = 1 := by kernel_rfl

theorem liesAt_off {P : Program} {e : TypeId} (hc : P.cellsOf e = 1) (count off n : Nat) (hn : off + n ≤ count) : liesAt P P.depth e count off e n = true := by
  have hd : P.depth = (2 * (P.types.size + Made.depth) + 1) + 1 := rfl
  rw [hd]
  simp only [liesAt, Bool.or_eq_true]
  left
  rw [hd]
  simp [rowAt, hc, hn, sameLayout, Nat.mod_one]

theorem unsafeString_off {P : Program} (w : World) (pt it ty e : TypeId) (hp : P.underlying pt = some (.pointer e)) (hc : P.cellsOf e = 1) (g base cells : Nat) (hsh : w.shape? g = some (e, cells)) (l : List UInt8) (h0 : l ≠ []) (hn : base + l.length ≤ cells) (h63 : l.length ≤ 9223372036854775807)
    (hcell : ∀ (j : Nat) (x : UInt8), l[j]? = some x → w.cell? ((⟨g, base, none⟩ : Addr).add j) = some (.int .u8 x.toNat)) :
    (Builtin.unsafeString_ #[pt, it] ty #[.pointer (some ⟨g, base, none⟩), .int .i64 l.length]).run P w = .ok (.string ⟨l.toArray⟩) (w.freeze ⟨g, base, none⟩ l.length) := by
  have hl : l.length ≠ 0 := by simpa using h0
  have hlb := Lib.run_loadBytes (P := P) w l ⟨g, base, none⟩ .empty hcell
  have hlies := liesAt_off (P := P) hc (cells / P.cellsOf e) base l.length (by rw [hc]; simpa using hn)
  have h63' : ¬ (9223372036854775807 : Int) < (l.length : Int) := by omega
  have hdef : Builtin.unsafeString_ #[pt, it] ty #[.pointer (some ⟨g, base, none⟩), .int .i64 l.length] =
      (do
        let n ← asInt (.int .i64 l.length)
        if n < 0 then runtimePanic (.error "unsafe.String: len out of range")
        if n > IntKind.i64.max then unsupported (.unsafePointer "String: a length above the largest int")
        if n = 0 then pure (.string .empty)
        else if ← variablesAt ⟨g, base, none⟩ (← elemOf pt) n.toNat then do
          let s ← loadBytes ⟨g, base, none⟩ .empty n.toNat
          freeze ⟨g, base, none⟩ n.toNat
          pure (.string s)
        else unsupported (.unsafePointer "String: not so many bytes at ptr")) := rfl
  rw [hdef]
  have hmax : IntKind.i64.max = 9223372036854775807 := rfl
  have hneg : ¬ (l.length : Int) < 0 := by omega
  simp [asInt, asIntOf, hmax, h63', hneg, hl, variablesAt, hsh, elemOf, run_underlying hp, hlies, hlb]

set_option maxHeartbeats 1000000 in
theorem cc_used (b : Nat) (w : World) (h0 : w.cell? ⟨b, 0, none⟩ = some (.pointer (some ⟨b, 0, none⟩))) :
    Calls Tryz.prog 62 #[.pointer (some ⟨b, 0, none⟩)] w fun e w' => e = .returned (.tuple #[]) ∧ w' = w := by
  obtain ⟨j, hj, _⟩ := iB
  have u84 := run_underlying tB
  have u146 := run_underlying tU
  go_enter Tryz.func62, Tryz.ntmps62
  go_wp2
  rw [Lib.run_neq_ptr_same w _ tB hj]
  go_wp2
  go_end0
  exact ⟨rfl, rfl⟩

set_option maxHeartbeats 1000000 in
theorem cc_fresh (b : Nat) (w : World) (h0 : w.cell? ⟨b, 0, none⟩ = some (.pointer none)) (hsh : w.shape? b = some (59, 2)) (hfz : w.frozen? ⟨b, 0, none⟩ = false) :
    Calls Tryz.prog 62 #[.pointer (some ⟨b, 0, none⟩)] w fun e w' => e = .returned (.tuple #[]) ∧ w' = w.setCell ⟨b, 0, none⟩ (.pointer (some ⟨b, 0, none⟩)) := by
  obtain ⟨j, hj, hjs⟩ := iB
  have u84 := run_underlying tB
  have u146 := run_underlying tU
  go_enter Tryz.func62, Tryz.ntmps62
  go_wp2
  rw [Lib.run_to_unsafe w ⟨b, 0, none⟩ tB tU hj (by rw [hjs]; decide) hsh (Nat.zero_lt_succ 1)]
  simp only [Result.andThen]
  rw [Oper.upon_value]
  go_wp2
  rw [run_callFunc_extern Tryz.func85 (by kernel_rfl) (by kernel_rfl) (by kernel_rfl) (e := Extern.AbiNoEscape.same) (by kernel_rfl)]
  rw [Lib.run_noEscape]
  simp only [Result.andThen]
  rw [Oper.upon_value]
  go_wp2
  rw [Lib.run_from_unsafe w ⟨b, 0, none⟩ tU tB hj hsh lB]
  simp only [Result.andThen]
  rw [Oper.upon_value]
  go_wp2
  go_end0
  exact ⟨rfl, rfl⟩

set_option maxHeartbeats 2000000 in
theorem str_nil (b : Nat) (w : World) (hbk : w.cell? ⟨b, 1, none⟩ = some (.slice none 0 0)) :
    Calls Tryz.prog 34 #[.pointer (some ⟨b, 0, none⟩)] w fun e w' => e = .returned (.string ⟨#[]⟩) ∧ w' = w.drew := by
  have hUS0 := fun w q => Lib.run_unsafeString_none (P := Tryz.prog) (w := w) 87 3 9 q
  have c1 : w.drew.cell? ⟨b, 1, none⟩ = some (.slice none 0 0) := hbk
  have hSD : (Builtin.unsafeSliceData_ #[57] 87 #[.slice none 0 0]).run Tryz.prog w.drew = .ok (.pointer none) w.drew := rfl
  have u84 := run_underlying tB
  have u41 := run_underlying t41
  have u119 := run_underlying t119
  have u3 := run_underlying t3
  have u9 := run_underlying t9
  have u5 := run_underlying t5
  go_enter Tryz.func34, Tryz.ntmps34
  go_wp2
  go_region
  all_goals (go_wp2; go_ret; exact ⟨rfl, rfl⟩)

set_option maxHeartbeats 2000000 in
theorem str_room (b : Nat) (w : World) (g base cap : Nat) (hc0 : cap ≠ 0) (hbk : w.cell? ⟨b, 1, none⟩ = some (.slice (some ⟨g, base, none⟩) 0 cap)) :
    Calls Tryz.prog 34 #[.pointer (some ⟨b, 0, none⟩)] w fun e w' => e = .returned (.string ⟨#[]⟩) ∧ w' = w.drew := by
  have hUS0 := fun w q => Lib.run_unsafeString_none (P := Tryz.prog) (w := w) 87 3 9 q
  have c1 : w.drew.cell? ⟨b, 1, none⟩ = some (.slice (some ⟨g, base, none⟩) 0 cap) := hbk
  have hSD : (Builtin.unsafeSliceData_ #[57] 87 #[.slice (some ⟨g, base, none⟩) 0 cap]).run Tryz.prog w.drew = .ok (.pointer (some ⟨g, base, none⟩)) w.drew :=
    Lib.run_unsafeSliceData_row _ _ _ _ _ _ hc0
  clear hc0
  have u84 := run_underlying tB
  have u41 := run_underlying t41
  have u119 := run_underlying t119
  have u3 := run_underlying t3
  have u9 := run_underlying t9
  have u5 := run_underlying t5
  go_enter Tryz.func34, Tryz.ntmps34
  go_wp2
  go_region
  all_goals (go_wp2; go_ret; exact ⟨rfl, rfl⟩)

set_option maxHeartbeats 2000000 in
theorem str_full (b : Nat) (w : World) (g base cap : Nat) (l : List UInt8) (h0 : l ≠ []) (hlc : l.length ≤ cap) (n : Nat) (hsh : w.shape? g = some (5, n)) (hcn : base + l.length ≤ n) (h63 : l.length ≤ 9223372036854775807) (hcell : ∀ (j : Nat) (x : UInt8), l[j]? = some x → w.cell? ((⟨g, base, none⟩ : Addr).add j) = some (.int .u8 x.toNat)) (hbk : w.cell? ⟨b, 1, none⟩ = some (.slice (some ⟨g, base, none⟩) l.length cap)) :
    Calls Tryz.prog 34 #[.pointer (some ⟨b, 0, none⟩)] w fun e w' => e = .returned (.string ⟨l.toArray⟩) ∧ w' = (w.drew.freeze ⟨g, base, none⟩ l.length) := by
  have hUS0 := fun w q => Lib.run_unsafeString_none (P := Tryz.prog) (w := w) 87 3 9 q
  have c1 : w.drew.cell? ⟨b, 1, none⟩ = some (.slice (some ⟨g, base, none⟩) l.length cap) := hbk
  have hl0 : l.length ≠ 0 := by simpa using h0
  have hSD : (Builtin.unsafeSliceData_ #[57] 87 #[.slice (some ⟨g, base, none⟩) l.length cap]).run Tryz.prog w.drew = .ok (.pointer (some ⟨g, base, none⟩)) w.drew :=
    Lib.run_unsafeSliceData_row _ _ _ _ _ _ (by omega)
  have hUS : (Builtin.unsafeString_ #[87, 3] 9 #[.pointer (some ⟨g, base, none⟩), .int .i64 l.length]).run Tryz.prog w.drew = .ok (.string ⟨l.toArray⟩) (w.drew.freeze ⟨g, base, none⟩ l.length) := by
    exact unsafeString_off w.drew 87 3 9 5 t119 cells5 g base n hsh l h0 hcn h63 hcell
  clear hcell hsh hcn h63 hlc hl0 h0
  have u84 := run_underlying tB
  have u41 := run_underlying t41
  have u119 := run_underlying t119
  have u3 := run_underlying t3
  have u9 := run_underlying t9
  have u5 := run_underlying t5
  go_enter Tryz.func34, Tryz.ntmps34
  go_wp2
  go_region
  all_goals (go_wp2; go_ret; exact ⟨rfl, rfl⟩)
end Ink.D

namespace Ink.D
open Go Go.Proofs Go.RowKit
set_option maxRecDepth 100000
set_option linter.unusedVariables false
theorem z5 : ∀ w, (Go.sizeOf 5).run Tryz.prog w = .ok 1 w := fun w => by kernel_rfl
theorem ap_empty (a : Option Addr) (cap : Nat) (w : World) : (Builtin.append_ #[57, 9] 57 #[.slice a 0 cap, .string ⟨#[]⟩]).run Tryz.prog w = .ok (.slice a 0 cap) w := by
  have u41 := run_underlying (P := Tryz.prog) t41
  have u9 := run_underlying (P := Tryz.prog) t9
  have e : ({ data := #[] } : ByteArray).size = 0 := rfl
  simp [Builtin.append_, u41, u9, z5, Builtin.lenOf, Builtin.firstCells, e]
  cases a <;> simp [storeCells]

set_option maxHeartbeats 400000 in
theorem ws_empty (b : Nat) (w w1 : World) (v : Value) (hcc : Calls Tryz.prog 62 #[.pointer (some ⟨b, 0, none⟩)] w fun e w' => e = .returned (.tuple #[]) ∧ w' = w1)
    (h1 : w1.cell? ⟨b, 1, none⟩ = some v) (hv : ∃ a cap, v = .slice a 0 cap) (hfz : w1.frozen? ⟨b, 1, none⟩ = false) :
    Calls Tryz.prog 37 #[.pointer (some ⟨b, 0, none⟩), .string ⟨#[]⟩] w fun e w' => e = .returned (.tuple #[.int .i64 0, .nilIface]) ∧ w' = w1.setCell ⟨b, 1, none⟩ v := by
  obtain ⟨a, cap, rfl⟩ := hv
  have hA := ap_empty a cap w1
  have u84 := run_underlying tB
  have u41 := run_underlying t41
  have u119 := run_underlying t119
  have u3 := run_underlying t3
  have u9 := run_underlying t9
  have u5 := run_underlying t5
  go_enter Tryz.func37, Tryz.ntmps37
  go_wp2_with (go_at_call 62; refine hcc.mono ?_; rintro e w' ⟨rfl, rfl⟩)
  all_goals (simp only [Sem.run_pure, Result.andThen]; rw [Oper.upon_value]; go_wp2; refine bodyPost_ret (results_tmp2 rfl _ _ _) rfl ?_; exact ⟨rfl, rfl⟩)
end Ink.D

namespace Ink.D
open Go Go.Proofs
set_option maxRecDepth 100000
variable {E : Env} (hE : E.P = Tryz.prog)

theorem enter_of {P : Program} {f : FuncId} {fn : Func} {c : Code} (hf : P.funcs[f]? = some fn) (hb : fn.body = some c) (hn : (fn.name == "runtime.NumGoroutine") = false) (vs : Array Value) (w : World) :
    (callFunc f vs).run P w = .ok (.enter f vs) w := by
  have hn' : ¬ fn.name = "runtime.NumGoroutine" := by simpa using hn
  simp [callFunc, hf, hb, hn']

include hE
theorem bldP : BldP E.P 59 5 62 34 := by
  rw [hE]
  exact {
    ecc := enter_of Tryz.func62 rfl (by decide)
    estr := enter_of Tryz.func34 rfl (by decide)
    used := cc_used
    fresh := cc_fresh
    nil := str_nil
    room := fun b w g base cap hc h => str_room b w g base cap hc h
    full := fun b w g base cap l h0 hlc n hsh hcn h63 hcell h => str_full b w g base cap l h0 hlc n hsh hcn h63 hcell h }

theorem writeByte (bs : List UInt8) (c : UInt8) (hlen : bs.length < 1000000000) : BCalls E 56 [.ptr 1 0 0, .int .u8 (c.toNat : Int)] [.bld 59 5 bs] fun r ks => r = .lit .nilIface ∧ ks = [.bld 59 5 (bs ++ [c])] := by
  refine b56 hE fun l => ?_
  conv => whnf
  refine CallG.a (((bldP hE).check l bs).mono fun r H' ⟨h1, h2⟩ => ?_)
  subst h1 h2
  conv => whnf
  refine ⟨⟨rfl, rfl, rfl, by simp [bytesAV_length], by decide, ?_⟩, ?_⟩
  · simp [chunkK]; omega
  conv => whnf
  refine RetG.fold (bs := bs ++ [c]) (v2 := 1) (by simp) rfl ?_ ⟨rfl, rfl⟩
  simp [bytesAV_append, chunkK, takeK, appK, dropK, AOpd.ev, bytesAV_take]
  rfl

theorem writeString (bs s : List UInt8) (hlen : bs.length + s.length < 1000000000) : BCalls E 37 [.ptr 1 0 0, .str s] [.bld 59 5 bs] fun r ks => r = .tup [.int .i64 s.length, .lit .nilIface] ∧ ks = [.bld 59 5 (bs ++ s)] := by
  by_cases h0 : bs ++ s = []
  · obtain ⟨rfl, rfl⟩ := List.append_eq_nil_iff.mp h0
    refine BldP.empty (bldP hE) (f := 37) ?_ ?_
    · rw [hE]; exact enter_of Tryz.func37 rfl (by decide)
    · rw [hE]; exact ws_empty
  · refine b37 hE fun l => ?_
    conv => whnf
    refine CallG.a (((bldP hE).check l bs).mono fun r H' ⟨h1, h2⟩ => ?_)
    subst h1 h2
    conv => whnf
    refine ⟨⟨trivial, rfl, rfl, by simp [bytesAV_length], by decide, by omega⟩, ?_⟩
    conv => whnf
    refine ⟨by omega, ?_⟩
    conv => whnf
    refine RetG.fold (bs := bs ++ s) (v2 := 1) h0 rfl ?_ ⟨rfl, rfl⟩
    simp [bytesAV_append, chunkK, takeK, appK, dropK, AOpd.ev, bytesAV_take]

theorem string (bs : List UInt8) (hlen : bs.length < 1000000000) : BCalls E 34 [.ptr 1 0 0] [.bld 59 5 bs] fun r ks => r = .str bs ∧ ks = [.cells 59 []] :=
  (bldP hE).string (by omega)
end Ink.D

namespace Ink.D
open Go Go.Proofs
set_option maxRecDepth 100000
variable {E : Env} (hE : E.P = Tryz.prog)
abbrev big : Nat := 100000000
def u8 (c : UInt8) : AV := .int .u8 (c.toNat : Int)
abbrev ix := Lib.indexByte

theorem ix_le (l : List UInt8) (c : UInt8) : -1 ≤ ix l c ∧ ix l c < l.length := by
  induction l with
  | nil => simp [ix, Lib.indexByte]
  | cons b l ih =>
    simp only [ix, Lib.indexByte] at *
    split
    · simp
    · split
      · simp; omega
      · simp at *; omega

include hE
theorem index106 (s : List UInt8) (c : UInt8) (hs : s.length < big) : PCalls E 120 [.str s, .int .u8 (c.toNat : Int)] (· = .int .i64 (ix s c)) := by
  unfold PCalls
  intro H
  unfold ACalls
  intro cx vs hH hr hg hl
  obtain ⟨v, u, rfl, hv, hu⟩ : ∃ v u, vs = [v, u] ∧ VR cx (.str s) v ∧ VR cx (.int .u8 (c.toNat : Int)) u := by
    match vs, hl.len with
    | [v, u], _ => exact ⟨v, u, rfl, hl.at_ 0 _ v rfl rfl, hl.at_ 1 _ u rfl rfl⟩
  cases hv with
  | str _ st hst =>
    cases hu with
    | int _ _ hk =>
      refine .inr ⟨.int .i64 (ix s c), cx.w, ?_, cx, _, rfl, hr, Ext.refl cx, .int _ _ ?_, rfl, hH⟩
      · rw [hE]
        rw [run_callFunc_indexByte Tryz.func120 (by decide) rfl (by decide) rfl, Lib.run_indexByteString, hst]
        simp [Result.andThen, ix]
      · have := ix_le s c
        unfold big at hs
        constructor
        · show (-9223372036854775808 : Int) ≤ _; omega
        · show _ ≤ (9223372036854775807 : Int); omega

theorem index73 (s : List UInt8) (c : UInt8) (hs : s.length < big) : PCalls E 100 [.str s, .int .u8 (c.toNat : Int)] (· = .int .i64 (ix s c)) := by
  refine p100 hE fun l => ?_
  conv => whnf
  refine CallG.e (index106 hE s c hs) ?_
  conv => whnf
  exact RetG.q ⟨rfl, rfl, rfl⟩

theorem index47 (s : List UInt8) (c : UInt8) (hs : s.length < big) : PCalls E 78 [.str s, .int .u8 (c.toNat : Int)] (· = .int .i64 (ix s c)) := by
  refine p78 hE fun l => ?_
  conv => whnf
  refine CallG.e (index73 hE s c hs) ?_
  conv => whnf
  exact RetG.q ⟨rfl, rfl, rfl⟩

omit hE in
theorem ix_mem (l : List UInt8) (c : UInt8) : 0 ≤ ix l c ↔ c ∈ l := by
  induction l with
  | nil => simp [ix, Lib.indexByte]
  | cons b l ih =>
    have := ix_le l c
    simp only [ix, Lib.indexByte] at *
    by_cases h : b = c
    · simp [h]
    · have h' : ¬ c = b := fun e => h e.symm
      simp only [beq_iff_eq, h, if_false, List.mem_cons, h', false_or, ← ih]
      split <;> omega

omit hE in
def isWhite (c : UInt8) : Bool := c == 0 || c == 9 || c == 10 || c == 12 || c == 13 || c == 32
def isDelim (c : UInt8) : Bool := decide (c ∈ ([40, 41, 60, 62, 91, 93, 123, 125, 47, 37] : List UInt8))
def isReg (c : UInt8) : Bool := !isWhite c && !isDelim c

theorem white (c : UInt8) : PCalls E 98 [.int .u8 (c.toNat : Int)] (· = .bool (isWhite c)) := by
  refine p98 hE fun l => ?_
  repeat' ((conv => whnf); split)
  all_goals
    conv => whnf
    refine RetG.q ⟨rfl, ?_, rfl⟩
    simp_all [isWhite, zEq, zEq0]

theorem delim (c : UInt8) : PCalls E 99 [.int .u8 (c.toNat : Int)] (· = .bool (isDelim c)) := by
  refine p99 hE fun l => ?_
  conv => whnf
  refine CallG.e (index47 hE _ c (by decide)) ?_
  conv => whnf
  refine RetG.q ⟨rfl, ?_, rfl⟩
  simp only [isDelim, ix_mem]

theorem regular (c : UInt8) : PCalls E 77 [.int .u8 (c.toNat : Int)] (· = .bool (isReg c)) := by
  refine p77 hE fun l => ?_
  conv => whnf
  refine CallG.e (white hE c) ?_
  conv => whnf
  cases hw : isWhite c
  · conv => whnf
    refine CallG.e (delim hE c) ?_
    conv => whnf
    refine RetG.q ⟨rfl, ?_, rfl⟩
    simp [isReg, hw]
  · conv => whnf
    refine RetG.q ⟨rfl, ?_, rfl⟩
    simp [isReg, hw]

omit hE in
/-- the place behind bytes of which something is so -/
def whileL (p : UInt8 → Bool) (s : List UInt8) (k : Nat) : Nat := k + ((s.drop k).takeWhile p).length

omit hE in
theorem whileL_lt {p : UInt8 → Bool} {s : List UInt8} {k : Nat} (h : k < s.length) (hp : p s[k] = true) : whileL p s k = whileL p s (k + 1) := by
  unfold whileL
  rw [List.drop_eq_getElem_cons h, List.takeWhile_cons_of_pos hp]
  simp; omega
omit hE in
theorem whileL_st {p : UInt8 → Bool} {s : List UInt8} {k : Nat} (h : k < s.length) (hp : ¬ p s[k] = true) : whileL p s k = k := by
  unfold whileL
  rw [List.drop_eq_getElem_cons h, List.takeWhile_cons_of_neg hp]
  simp
omit hE in
theorem whileL_ge {p : UInt8 → Bool} {s : List UInt8} {k : Nat} (h : s.length ≤ k) : whileL p s k = k := by
  unfold whileL
  rw [List.drop_eq_nil_of_le h]
  simp
omit hE in
theorem whileL_le (p : UInt8 → Bool) (s : List UInt8) (k : Nat) (h : k ≤ s.length) : k ≤ whileL p s k ∧ whileL p s k ≤ s.length := by
  unfold whileL
  have := (List.takeWhile_sublist p (l := s.drop k)).length_le
  simp at this
  omega

theorem while_ (s : List UInt8) (k : Nat) (f : Nat) (p : UInt8 → Bool) (hs : s.length < big) (hk : k ≤ s.length)
    (hp : ∀ c : UInt8, PCalls E f [.int .u8 (c.toNat : Int)] (· = .bool (p c))) : PCalls E 134 [.str s, .int .i64 k, .fn (.func f) [] []] (· = .int .i64 (whileL p s k)) := by
  unfold big at hs
  refine p134 hE fun l => ?_
  conv => whnf
  refine LoopG.s (fun x : Nat => x ≤ s.length ∧ whileL p s x = whileL p s k) 21 (fun x => [(0, .str s), (1, .int .i64 x), (2, .fn (.func f) [] [])]) (fun _ => frm l) (fun x => s.length - x) k ⟨hk, rfl⟩ rfl ⟨rfl, rfl, rfl⟩ rfl ?_
  rintro x ⟨h1, h2⟩
  conv => whnf
  refine ⟨by omega, ?_⟩
  conv => whnf
  split
  · rename_i hlt
    have hlt : x < s.length := by simpa using hlt
    have hg : s.getD (x : Int).toNat 0 = s[x] := by simp [hlt]
    conv => whnf
    refine ⟨by omega, ?_⟩
    conv => whnf
    refine CallG.e (hp _) ?_
    conv => whnf
    split
    · rename_i hc
      conv => whnf
      refine ⟨by unfold inI64; omega, ?_⟩
      conv => whnf
      refine ⟨x + 1, ⟨⟨hlt, ?_⟩, by omega⟩, Wk.slots rfl ⟨rfl, rfl, rfl⟩⟩
      rw [hg] at hc
      rw [← h2, whileL_lt hlt hc]
    · rename_i hc
      conv => whnf
      rw [hg] at hc
      refine RetG.q ⟨rfl, ?_, rfl⟩
      rw [← h2, whileL_st hlt (by simp [hc])]
  · rename_i hlt
    conv => whnf
    refine RetG.q ⟨rfl, ?_, rfl⟩
    rw [← h2, whileL_ge (by simpa using hlt)]
end Ink.D

namespace Ink.D
open Go Go.Proofs
set_option maxRecDepth 100000
variable {E : Env} (hE : E.P = Tryz.prog)

def notEol (c : UInt8) : Bool := c != 10 && c != 13

/-- how many bytes white and comments are; are we in a comment? -/
def skip : List UInt8 → Bool → Nat
  | [], _ => 0
  | c :: r, true => if notEol c then 1 + skip r true else 1 + skip r false
  | c :: r, false => if isWhite c then 1 + skip r false else if c = 37 then 1 + skip r true else 0

def spaceL (s : List UInt8) (k : Nat) : Nat := k + skip (s.drop k) false

theorem drop_tw (p : UInt8 → Bool) : ∀ l : List UInt8, l.drop (l.takeWhile p).length = l.dropWhile p
  | [] => rfl
  | c :: r => by
    by_cases h : p c = true
    · rw [List.takeWhile_cons_of_pos h, List.dropWhile_cons_of_pos h]; simpa using drop_tw p r
    · rw [List.takeWhile_cons_of_neg h, List.dropWhile_cons_of_neg h]; rfl

theorem drop_whileL (p : UInt8 → Bool) (s : List UInt8) (k : Nat) : s.drop (whileL p s k) = (s.drop k).dropWhile p := by
  unfold whileL
  rw [← List.drop_drop, drop_tw]

theorem skip_white : ∀ l : List UInt8, skip l false = (l.takeWhile isWhite).length + skip (l.dropWhile isWhite) false
  | [] => rfl
  | c :: r => by
    by_cases h : isWhite c = true
    · rw [List.takeWhile_cons_of_pos h, List.dropWhile_cons_of_pos h]
      simp only [skip, h, if_true, List.length_cons]
      rw [skip_white r]; omega
    · rw [List.takeWhile_cons_of_neg h, List.dropWhile_cons_of_neg h]; simp

theorem skip_eol : ∀ l : List UInt8, skip l true = (l.takeWhile notEol).length + skip (l.dropWhile notEol) false
  | [] => rfl
  | c :: r => by
    by_cases h : notEol c = true
    · rw [List.takeWhile_cons_of_pos h, List.dropWhile_cons_of_pos h]
      simp only [skip, h, if_true, List.length_cons]
      rw [skip_eol r]; omega
    · rw [List.takeWhile_cons_of_neg h, List.dropWhile_cons_of_neg h]
      have hw : isWhite c = true := by
        simp [notEol] at h
        simp [isWhite]
        by_cases h' : c = 10
        · simp [h']
        · simp [h h']
      simp [skip, h, hw]

theorem spaceL_white (s : List UInt8) (k : Nat) : spaceL s k = spaceL s (whileL isWhite s k) := by
  unfold spaceL
  rw [drop_whileL, skip_white (s.drop k)]
  unfold whileL; omega

theorem spaceL_comment (s : List UInt8) (k : Nat) (h : k < s.length) (hc : s[k] = 37) : spaceL s k = spaceL s (whileL notEol s k) := by
  unfold spaceL
  rw [drop_whileL]
  have hd : s.drop k = 37 :: s.drop (k + 1) := by rw [List.drop_eq_getElem_cons h, hc]
  have h1 : skip (37 :: s.drop (k + 1)) false = skip (37 :: s.drop (k + 1)) true := by
    have e1 : isWhite 37 = false := by decide
    have e2 : notEol 37 = true := by decide
    simp [skip, e1, e2]
  rw [hd, h1, skip_eol]
  unfold whileL; rw [hd]; omega

theorem spaceL_stop (s : List UInt8) (k : Nat) (h : k < s.length) (hw : isWhite s[k] = false) (hc : s[k] ≠ 37) : spaceL s k = k := by
  unfold spaceL
  rw [List.drop_eq_getElem_cons h]
  simp [skip, hw, hc]

theorem spaceL_end (s : List UInt8) (k : Nat) (h : s.length ≤ k) : spaceL s k = k := by
  unfold spaceL
  rw [List.drop_eq_nil_of_le h]; rfl

theorem whileL_at (p : UInt8 → Bool) (s : List UInt8) (k : Nat) (h : whileL p s k < s.length) : p s[whileL p s k] = false := by
  have hd := drop_whileL p s k
  rw [List.drop_eq_getElem_cons h] at hd
  have : ∀ l : List UInt8, ∀ c r, l.dropWhile p = c :: r → p c = false := by
    intro l
    induction l with
    | nil => intro c r h; simp at h
    | cons a l ih =>
      intro c r h
      by_cases ha : p a = true
      · rw [List.dropWhile_cons_of_pos ha] at h; exact ih c r h
      · rw [List.dropWhile_cons_of_neg ha] at h; cases h; simpa using ha
  exact this _ _ _ hd.symm

theorem whileL_gt {p : UInt8 → Bool} {s : List UInt8} {k : Nat} (h : k < s.length) (hp : p s[k] = true) : k < whileL p s k := by
  rw [whileL_lt h hp]
  have := (whileL_le p s (k + 1) (by omega)).1
  omega

theorem u8neg (c : UInt8) (n : Nat) (h : n < 256) : decide ((c.toNat : Int) ≠ (no_index (OfNat.ofNat n) : Int)) = (c != (OfNat.ofNat n : UInt8)) := by
  rw [Bool.eq_iff_iff]
  simp [zEq c n h]

include hE
theorem eol46 (c : UInt8) : PCalls E 135 [.int .u8 (c.toNat : Int)] (· = .bool (notEol c)) := by
  refine p135 hE fun l => ?_
  conv => whnf
  split
  · conv => whnf
    refine RetG.q ⟨rfl, congrArg AV.bool ?_, rfl⟩
    rw [Bool.eq_iff_iff]
    simp_all [notEol, zEq]
  · conv => whnf
    refine RetG.q ⟨rfl, congrArg AV.bool ?_, rfl⟩
    rw [Bool.eq_iff_iff]
    simp_all [notEol, zEq]

def clampL (s : List UInt8) (k : Int) : Nat := min (max k 0).toNat s.length

theorem space (s : List UInt8) (k : Int) (hs : s.length < big) : PCalls E 117 [.str s, .int .i64 k] (· = .int .i64 (spaceL s (clampL s k) : Nat)) := by
  unfold big at hs
  refine p117 hE fun l => ?_
  conv => whnf
  refine ⟨by omega, ?_⟩
  conv => whnf
  refine LoopG.s (fun x : Nat => x ≤ s.length ∧ spaceL s x = spaceL s (clampL s k)) 27 (fun x => [(0, .str s), (1, .int .i64 x)]) (fun _ => frm l) (fun x => s.length - x) (clampL s k) ⟨?_, rfl⟩ rfl ⟨rfl, ?_⟩ rfl ?_
  · unfold clampL; omega
  · refine congrArg (fun n => some (AV.int .i64 n)) ?_
    show (if _ then _ else _) = _
    unfold clampL
    simp only [Bool.false_eq_true, if_false, if_true]
    by_cases hk : 0 > k
    · simp only [hk, if_true]; split <;> omega
    · simp only [hk, if_false]; split <;> omega
  rintro x ⟨h1, h2⟩
  conv => whnf
  refine CallG.e (while_ hE s x 98 isWhite (by unfold big; omega) h1 (white hE)) ?_
  conv => whnf
  refine ⟨by omega, ?_⟩
  have hw := whileL_le isWhite s x h1
  have hsp := spaceL_white s x
  generalize ha : whileL isWhite s x = a at *
  conv => whnf
  split
  · rename_i he
    have he : a = s.length := by simp at he; omega
    conv => whnf
    refine RetG.q ⟨rfl, ?_, rfl⟩
    rw [← h2, hsp, spaceL_end s a (by omega)]
  · rename_i he
    have he : a < s.length := by simp at he; omega
    have hg : s.getD (a : Int).toNat 0 = s[a] := by simp [he]
    conv => whnf
    refine ⟨by omega, ?_⟩
    conv => whnf
    split
    · rename_i hc
      rw [hg, u8neg _ _ (by decide)] at hc
      conv => whnf
      refine RetG.q ⟨rfl, ?_, rfl⟩
      rw [← h2, hsp, spaceL_stop s a he ?_ (by simpa using hc)]
      subst ha; exact whileL_at _ _ _ he
    · rename_i hc
      rw [hg, u8neg _ _ (by decide)] at hc
      have hc : s[a] = 37 := by simpa using hc
      conv => whnf
      refine CallG.e (while_ hE s a 135 notEol (by unfold big; omega) hw.2 (eol46 hE)) ?_
      conv => whnf
      have hg := whileL_gt (p := notEol) he (by rw [hc]; decide)
      have hl := whileL_le notEol s a hw.2
      refine ⟨whileL notEol s a, ⟨⟨hl.2, ?_⟩, by omega⟩, Wk.slots rfl ⟨rfl, rfl⟩⟩
      rw [← h2, hsp, spaceL_comment s a he hc]
end Ink.D

namespace Ink.D
open Go Go.Proofs
set_option maxRecDepth 100000
variable {E : Env} (hE : E.P = Tryz.prog)

theorem u8eql (c d : UInt8) : ((c.toNat : Int) = (d.toNat : Int)) ↔ c = d := by
  rw [← UInt8.toNat_inj]; omega

theorem getD_at (l : List UInt8) (x : Nat) (h : x < l.length) : l.getD (x : Int).toNat 0 = l[x] := by simp [h]

include hE
theorem rwhite (c : UInt8) : PCalls E 111 [.int .u8 (c.toNat : Int)] (· = .bool (isWhite c)) := by
  refine p111 hE fun l => ?_
  repeat' ((conv => whnf); split)
  all_goals
    conv => whnf
    refine RetG.q ⟨rfl, congrArg AV.bool ?_, rfl⟩
    rw [Bool.eq_iff_iff]
    simp_all [isWhite, zEq, zEq0]

omit hE in
theorem drop_mem (l : List UInt8) (c : UInt8) (x : Nat) (h : x < l.length) : c ∈ l.drop x ↔ (l[x] = c ∨ c ∈ l.drop (x + 1)) := by
  rw [List.drop_eq_getElem_cons h, List.mem_cons]
  exact or_congr_left eq_comm

theorem rdelim (c : UInt8) : PCalls E 112 [.int .u8 (c.toNat : Int)] (· = .bool (isDelim c)) := by
  refine p112 hE fun l => ?_
  conv => whnf
  refine LoopG.s (fun x : Nat => x ≤ 10 ∧ isDelim c = decide (c ∈ ([40, 41, 60, 62, 91, 93, 123, 125, 47, 37] : List UInt8).drop x)) 16 (fun x => [(0, .int .u8 (c.toNat : Int)), (3, .str [40, 41, 60, 62, 91, 93, 123, 125, 47, 37]), (4, .int .i64 x)]) (fun _ => frm l) (fun x => 10 - x) 0 ⟨by omega, rfl⟩ rfl ⟨rfl, rfl, rfl⟩ rfl ?_
  rintro x ⟨h1, h2⟩
  conv => whnf
  refine ⟨by decide, ?_⟩
  conv => whnf
  split
  · rename_i hlt
    have hlt : x < 10 := by simp at hlt; omega
    have hl : x < ([40, 41, 60, 62, 91, 93, 123, 125, 47, 37] : List UInt8).length := hlt
    have hg : ([40, 41, 60, 62, 91, 93, 123, 125, 47, 37] : List UInt8).getD (x : Int).toNat 0 = ([40, 41, 60, 62, 91, 93, 123, 125, 47, 37] : List UInt8)[x] := getD_at _ x hl
    have hm := drop_mem _ c x hl
    conv => whnf
    refine ⟨⟨by omega, by simp; omega⟩, ?_⟩
    conv => whnf
    split
    · rename_i hc
      rw [hg] at hc
      simp only [u8eql, decide_eq_true_eq] at hc
      conv => whnf
      refine RetG.q ⟨rfl, congrArg AV.bool ?_, rfl⟩
      rw [h2, eq_comm, decide_eq_true_eq, hm]
      exact .inl hc
    · rename_i hc
      rw [hg] at hc
      simp only [u8eql, decide_eq_false_iff_not] at hc
      conv => whnf
      refine ⟨by unfold inI64; omega, ?_⟩
      conv => whnf
      refine ⟨x + 1, ⟨⟨hlt, ?_⟩, by omega⟩, Wk.slots rfl ⟨rfl, rfl, rfl⟩⟩
      rw [h2, decide_eq_decide, hm]
      simp [hc]
  · rename_i hlt
    have hlt : ¬ x < 10 := by simp at hlt; omega
    conv => whnf
    refine RetG.q ⟨rfl, congrArg AV.bool ?_, rfl⟩
    rw [h2]
    have : x = 10 := by omega
    subst this; rfl

theorem rregular (c : UInt8) : PCalls E 84 [.int .u8 (c.toNat : Int)] (· = .bool (isReg c)) := by
  refine p84 hE fun l => ?_
  conv => whnf
  refine CallG.e (rwhite hE c) ?_
  conv => whnf
  cases hw : isWhite c
  · conv => whnf
    refine CallG.e (rdelim hE c) ?_
    conv => whnf
    refine RetG.q ⟨rfl, congrArg AV.bool ?_, rfl⟩
    simp [isReg, hw]
  · conv => whnf
    refine RetG.q ⟨rfl, congrArg AV.bool ?_, rfl⟩
    simp [isReg, hw]

end Ink.D

namespace Ink.D
open Go Go.Proofs
set_option maxRecDepth 100000
variable {E : Env} (hE : E.P = Tryz.prog)

theorem u8all {p : UInt8 → Prop} (h : ∀ n, n < 256 → p (UInt8.ofNat n)) (c : UInt8) : p c := by
  have := h c.toNat c.toNat_lt
  simpa using this

/-- a digit of sixteen -/
def hexN (c : UInt8) : Option UInt8 :=
  if 48 ≤ c ∧ c ≤ 57 then some (c - 48) else if 97 ≤ c ∧ c ≤ 102 then some (c - 87) else if 65 ≤ c ∧ c ≤ 70 then some (c - 55) else none

def digAV (o : Option UInt8) : AV := .tup [.int .u8 (((o.getD 0).toNat : Nat) : Int), .bool o.isSome]

theorem tup2 {k : IntKind} {a b : Int} {c d : Bool} (h1 : a = b) (h2 : c = d) : AV.tup [.int k a, .bool c] = AV.tup [.int k b, .bool d] := by rw [h1, h2]

include hE
theorem digit (c : UInt8) : PCalls E 148 [.int .u8 (c.toNat : Int)] (· = digAV (hexN c)) := by
  refine p148 hE fun l => ?_
  repeat' ((conv => whnf); split)
  all_goals
    conv => whnf
    refine RetG.q ⟨rfl, ?_, rfl⟩
    refine tup2 ?_ ?_
    all_goals
      rename_i h
      clear hE
      revert c
      refine u8all ?_
      decide +kernel

omit hE in
theorem wrap_u8 (n : Nat) (h : n < 256) : IntKind.wrap .u8 (n : Int) = n := by
  simp only [IntKind.wrap, IntKind.bits, IntKind.signed, Bool.false_and, Bool.false_eq_true, if_false]
  exact Int.emod_eq_of_lt (by omega) (by omega)

omit hE in
theorem or_u8 (a b : UInt8) : bits .or .u8 (a.toNat : Int) (b.toNat : Int) = ((a ||| b).toNat : Int) := by
  have e : ∀ x : UInt8, BitVec.ofInt 8 (x.toNat : Int) = x.toBitVec := fun x => by
    apply BitVec.eq_of_toNat_eq
    simp
  show IntKind.wrap .u8 ((BitVec.ofInt 8 (a.toNat : Int) ||| BitVec.ofInt 8 (b.toNat : Int)).toNat : Int) = _
  rw [e a, e b]
  exact wrap_u8 _ (a ||| b).toNat_lt

omit hE in
theorem shl4_u8 (a : UInt8) : IntKind.wrap .u8 ((a.toNat : Int) * 2 ^ (min (4 : Int).toNat (IntKind.bits .u8))) = ((a <<< 4).toNat : Int) := by
  revert a
  refine u8all ?_
  decide +kernel

/-- the byte of two digits -/
def octV (s : List UInt8) : Option UInt8 :=
  match s with
  | a :: b :: _ => match hexN a, hexN b with
    | some x, some y => some (x <<< 4 ||| y)
    | _, _ => none
  | _ => none

omit hE in
def octQ (s : List UInt8) (r : AV) : Prop := ∃ v : UInt8, r = .tup [.int .u8 (v.toNat : Int), .bool (octV s).isSome] ∧ ∀ x, octV s = some x → v = x

theorem octet (s : List UInt8) (hs : s.length < big) : PCalls E 156 [.str s] (octQ s) := by
  unfold big at hs
  refine p156 hE fun l => ?_
  conv => whnf
  refine ⟨by omega, ?_⟩
  conv => whnf
  match s, hs with
  | [], hs =>
    conv => whnf
    exact RetG.q ⟨rfl, ⟨0, rfl, fun x h => by cases h⟩, rfl⟩
  | [a], hs =>
    conv => whnf
    exact RetG.q ⟨rfl, ⟨0, rfl, fun x h => by cases h⟩, rfl⟩
  | a :: b :: r, hs =>
    have h2 : decide (((a :: b :: r).length : Int) < 2) = false := by simp; omega
    rw [h2]
    conv => whnf
    refine ⟨by simp; omega, ?_⟩
    conv => whnf
    refine CallG.e (digit hE _) ?_
    conv => whnf
    refine ⟨by simp; omega, ?_⟩
    conv => whnf
    refine CallG.e (digit hE _) ?_
    conv => whnf
    refine ⟨by decide, ?_⟩
    have e0 : (a :: b :: r).getD (Int.toNat 0) 0 = a := rfl
    have e1 : (a :: b :: r).getD (Int.toNat 1) 0 = b := rfl
    rw [e0, e1, shl4_u8]
    conv => whnf
    rw [or_u8]
    cases ha : hexN a with
    | none =>
      conv => whnf
      exact RetG.q ⟨rfl, ⟨_, tup2 rfl (by simp [octV, ha]), fun x h => by simp [octV, ha] at h⟩, rfl⟩
    | some x =>
      conv => whnf
      refine RetG.q ⟨rfl, ⟨_, tup2 rfl (by cases hb : hexN b <;> simp [octV, ha, hb]), fun y h => ?_⟩, rfl⟩
      cases hb : hexN b with
      | none => simp [octV, ha, hb] at h
      | some z => simp [octV, ha, hb] at h; simp [h]

/-! strings -/
theorem hasPrefix98 (s t : List UInt8) (hs : s.length < big) (ht : t.length < big) : PCalls E 121 [.str s, .str t] (· = .bool (t.isPrefixOf s)) := by
  unfold big at hs ht
  refine p121 hE fun l => ?_
  conv => whnf
  refine ⟨by omega, ?_⟩
  conv => whnf
  refine ⟨by omega, ?_⟩
  conv => whnf
  split
  · rename_i h
    have h : t.length ≤ s.length := by simp at h; omega
    conv => whnf
    refine ⟨by omega, ?_⟩
    conv => whnf
    refine ⟨by omega, ?_⟩
    conv => whnf
    refine RetG.q ⟨rfl, congrArg AV.bool ?_, rfl⟩
    rw [Bool.eq_iff_iff]
    simp only [decide_eq_true_eq, List.isPrefixOf_iff_prefix, List.prefix_iff_eq_take]
    exact eq_comm
  · rename_i h
    have h : ¬ t.length ≤ s.length := by simp at h; omega
    conv => whnf
    refine RetG.q ⟨rfl, congrArg AV.bool ?_, rfl⟩
    rw [eq_comm, Bool.eq_false_iff, ne_eq, List.isPrefixOf_iff_prefix]
    exact fun hp => h hp.length_le

theorem hasPrefix (s t : List UInt8) (hs : s.length < big) (ht : t.length < big) : PCalls E 103 [.str s, .str t] (· = .bool (t.isPrefixOf s)) := by
  refine p103 hE fun l => ?_
  conv => whnf
  refine CallG.e (hasPrefix98 hE s t hs ht) ?_
  conv => whnf
  exact RetG.q ⟨rfl, rfl, rfl⟩

/-- strings.Index of one byte -/
theorem index151 (s : List UInt8) (c : UInt8) (hs : s.length < big) : PCalls E 165 [.str s, .str [c]] (· = .int .i64 (ix s c)) := by
  refine p165 hE fun l => ?_
  conv => whnf
  refine ⟨by simp, ?_⟩
  conv => whnf
  split
  · rename_i h
    have h : [c] = s := by simpa using h
    conv => whnf
    refine RetG.q ⟨rfl, ?_, rfl⟩
    rw [← h]; simp [ix, Lib.indexByte]
  · conv => whnf
    refine ⟨by simp, ?_⟩
    conv => whnf
    refine CallG.e (index73 hE s c hs) ?_
    conv => whnf
    exact RetG.q ⟨rfl, rfl, rfl⟩

/-- cut at a byte -/
def cutL (s : List UInt8) (c : UInt8) : List UInt8 × List UInt8 × Bool :=
  match s with
  | [] => ([], [], false)
  | b :: r => if b = c then ([], r, true) else let (x, y, z) := cutL r c; (b :: x, y, z)

omit hE in
theorem cutL_ix (s : List UInt8) (c : UInt8) : (0 ≤ ix s c → cutL s c = (s.take (ix s c).toNat, s.drop ((ix s c).toNat + 1), true)) ∧ (¬ 0 ≤ ix s c → cutL s c = (s, [], false)) := by
  induction s with
  | nil => simp [ix, Lib.indexByte, cutL]
  | cons b r ih =>
    have := ix_le r c
    simp only [ix, Lib.indexByte, cutL] at *
    by_cases h : b = c
    · simp [h]
    · simp only [h, beq_iff_eq, if_false]
      by_cases h0 : 0 ≤ Lib.indexByte r c
      · have hne : ¬ Lib.indexByte r c = -1 := by omega
        have e : (Lib.indexByte r c + 1).toNat = (Lib.indexByte r c).toNat + 1 := by omega
        simp only [hne, if_false, e, ih.1 h0, List.take_succ_cons, List.drop_succ_cons]
        exact ⟨fun _ => trivial, fun hn => (hn (by omega)).elim⟩
      · have hne : Lib.indexByte r c = -1 := by omega
        simp only [hne, if_true, ih.2 h0]
        exact ⟨fun hn => by omega, fun _ => trivial⟩

def cutAV (x : List UInt8 × List UInt8 × Bool) : AV := .tup [.str x.1, .str x.2.1, .bool x.2.2]

theorem cut148 (s : List UInt8) (c : UInt8) (hs : s.length < big) : PCalls E 162 [.str s, .str [c]] (· = cutAV (cutL s c)) := by
  refine p162 hE fun l => ?_
  conv => whnf
  refine CallG.e (index151 hE s c hs) ?_
  have hx := ix_le s c
  have hc := cutL_ix s c
  conv => whnf
  split
  · rename_i h
    have h : 0 ≤ ix s c := by simpa using h
    conv => whnf
    refine ⟨by omega, ?_⟩
    conv => whnf
    refine ⟨by simp, ?_⟩
    conv => whnf
    refine ⟨by unfold inI64; unfold big at hs; simp; omega, ?_⟩
    conv => whnf
    refine ⟨by simp; omega, ?_⟩
    conv => whnf
    refine RetG.q ⟨rfl, ?_, rfl⟩
    rw [hc.1 h]
    have e : (ix s c + ([c].length : Int)).toNat = (ix s c).toNat + 1 := by simp; omega
    simp only [cutAV, e]
  · rename_i h
    have h : ¬ 0 ≤ ix s c := by simpa using h
    conv => whnf
    refine RetG.q ⟨rfl, ?_, rfl⟩
    rw [hc.2 h]; rfl

theorem cut (s : List UInt8) (c : UInt8) (hs : s.length < big) : PCalls E 155 [.str s, .str [c]] (· = cutAV (cutL s c)) := by
  refine p155 hE fun l => ?_
  conv => whnf
  refine CallG.e (cut148 hE s c hs) ?_
  conv => whnf
  exact RetG.q ⟨rfl, rfl, rfl⟩

theorem index131 (s : List UInt8) (c : UInt8) (hs : s.length < big) : PCalls E 161 [.str s, .str [c]] (· = .int .i64 (ix s c)) := by
  refine p161 hE fun l => ?_
  conv => whnf
  refine CallG.e (index151 hE s c hs) ?_
  conv => whnf
  exact RetG.q ⟨rfl, rfl, rfl⟩

theorem contains (s : List UInt8) (c : UInt8) (hs : s.length < big) : PCalls E 150 [.str s, .str [c]] (· = .bool (decide (c ∈ s))) := by
  refine p150 hE fun l => ?_
  conv => whnf
  refine CallG.e (index131 hE s c hs) ?_
  conv => whnf
  refine RetG.q ⟨rfl, ?_, rfl⟩
  simp only [ix_mem]

omit hE in
/-- the name that bytes are -/
def namedL (s : List UInt8) : Option (List UInt8) :=
  match s with
  | [] => some []
  | c :: r => if c = 35 then match octV r with
      | some b => (namedL (r.drop 2)).map (b :: ·)
      | none => none
    else (namedL r).map (c :: ·)
termination_by s.length
decreasing_by all_goals (simp; try omega)

omit hE in
theorem namedL_cut (s : List UInt8) : namedL s = match cutL s 35 with
    | (a, b, z) => if z then match octV b with
        | some x => (namedL (b.drop 2)).map (fun t => a ++ x :: t)
        | none => none
      else some a := by
  induction s with
  | nil => simp [namedL, cutL]
  | cons c r ih =>
    rw [namedL, cutL]
    by_cases h : c = 35
    · simp only [h, if_true]
      cases octV r with
      | none => rfl
      | some x => simp
    · simp only [h, if_false]
      rw [ih]
      obtain ⟨a, b, z⟩ := cutL r 35
      cases z with
      | false => simp
      | true =>
        simp only [if_true]
        cases octV b with
        | none => rfl
        | some x => simp [Function.comp_def]

omit hE in
theorem cutL_len (s : List UInt8) (c : UInt8) : (cutL s c).1.length + (cutL s c).2.1.length + (if (cutL s c).2.2 then 1 else 0) = s.length := by
  induction s with
  | nil => simp [cutL]
  | cons b r ih =>
    rw [cutL]
    by_cases h : b = c
    · simp [h]
    · simp only [h, if_false, List.length_cons]
      generalize cutL r c = q at ih
      obtain ⟨x, y, z⟩ := q
      simp only at ih
      simp only [List.length_cons]; omega

def nmAV (o : Option (List UInt8)) : AV := match o with
  | some t => .tup [.str t, .int .i64 0]
  | none => .tup [.str [], .int .i64 3]

theorem named (s : List UInt8) (hs : s.length < big) : PCalls E 146 [.str s] (· = nmAV (namedL s)) := by
  unfold big at hs
  refine p146 hE fun l => ?_
  conv => whnf
  refine LoopG.s (fun x : List UInt8 × List UInt8 => x.1.length + x.2.length ≤ s.length ∧ namedL s = (namedL x.1).map (x.2 ++ ·)) 32 (fun x => [(0, .str x.1), (4, .ptr 1 0 0)]) (fun x => [⟨0, true, .frame l⟩, ⟨0, true, .bld 59 5 x.2⟩]) (fun x => x.1.length) (s, []) ⟨by simp, by simp⟩ rfl ⟨rfl, rfl⟩ rfl ?_
  rintro ⟨t, bs⟩ ⟨h1, h2⟩
  simp only at h1 h2
  conv => whnf
  refine CallG.e (cut hE t 35 (by unfold big; omega)) ?_
  have hc := namedL_cut t
  have hl := cutL_len t 35
  generalize cutL t 35 = q at hc hl
  obtain ⟨a, b, z⟩ := q
  simp only at hc hl
  conv => whnf
  refine CallG.b [(1, 0)] (writeString hE bs a (by omega)) ⟨rfl, trivial⟩ ⟨.ptr 0 1 0 0 rfl, .same _ rfl, trivial⟩ (fun r ks' hq _ _ => ?_)
  obtain ⟨rfl, rfl⟩ := hq
  conv => whnf
  cases z with
  | false =>
    conv => whnf
    refine CallG.b [(1, 0)] (string hE (bs ++ a) (by simp; omega)) ⟨rfl, trivial⟩ ⟨.ptr 0 1 0 0 rfl, trivial⟩ (fun r ks' hq _ _ => ?_)
    obtain ⟨rfl, rfl⟩ := hq
    conv => whnf
    refine RetG.drop rfl rfl rfl ⟨rfl, ?_, rfl⟩
    rw [h2, hc]; rfl
  | true =>
    simp only [if_true] at hc
    have hl : a.length + b.length + 1 = t.length := by simpa using hl
    conv => whnf
    refine CallG.p (octet hE b (by unfold big; omega)) (fun r hq => ?_)
    obtain ⟨v, rfl, hv⟩ := hq
    conv => whnf
    cases ho : octV b with
    | none =>
      conv => whnf
      refine RetG.drop rfl rfl rfl ⟨rfl, ?_, rfl⟩
      rw [h2, hc, ho]; rfl
    | some x =>
      have hv := hv x ho
      subst hv
      conv => whnf
      refine CallG.b [(1, 0)] (writeByte hE (bs ++ a) v (by simp; omega)) ⟨rfl, trivial⟩ ⟨.ptr 0 1 0 0 rfl, .same _ rfl, trivial⟩ (fun r ks' hq _ _ => ?_)
      obtain ⟨rfl, rfl⟩ := hq
      have hb : 2 ≤ b.length := by
        match b, ho with
        | _ :: _ :: _, _ => simp
      conv => whnf
      refine ⟨by show (0 : Int) ≤ 2 ∧ (2 : Int) ≤ b.length; omega, ?_⟩
      conv => whnf
      refine ⟨(b.drop 2, bs ++ a ++ [v]), ⟨⟨by simp; omega, ?_⟩, by simp; omega⟩, Wk.slots rfl ⟨rfl, rfl⟩⟩
      rw [h2, hc, ho]
      simp [Function.comp_def]
end Ink.D

namespace Ink.D
open Go Go.Proofs
set_option maxRecDepth 100000
variable {E : Env} (hE : E.P = Tryz.prog)

/-- a token -/
def tk (kind f : Int) (s : List UInt8) (whole : Bool) (from_ to : Int) : AV := .agg [.int .i64 kind, .int .i64 f, .str s, .bool whole, .int .i64 from_, .int .i64 to]
def tkE (t : AV) (e : Int) : AV := .tup [t, .int .i64 e]

def nameSub (s : List UInt8) (k : Nat) : List UInt8 := (s.drop (k + 1)).takeWhile isReg

theorem take_tw (p : UInt8 → Bool) : ∀ l : List UInt8, l.take (l.takeWhile p).length = l.takeWhile p
  | [] => rfl
  | c :: r => by
    by_cases h : p c = true
    · rw [List.takeWhile_cons_of_pos h]; simpa using take_tw p r
    · rw [List.takeWhile_cons_of_neg h]; rfl

theorem take_whileL (p : UInt8 → Bool) (s : List UInt8) (k : Nat) : (s.drop k).take (whileL p s k - k) = (s.drop k).takeWhile p := by
  unfold whileL
  rw [Nat.add_sub_cancel_left, take_tw]

def nameE (s : List UInt8) (k : Nat) : Int := if (namedL (nameSub s k)).isSome then 0 else 3

include hE
theorem name (s : List UInt8) (k : Nat) (hs : s.length < big) (hk : k < s.length) : PCalls E 136 [.str s, tk 0 0 [] false k 0] (· = tkE (tk 2 0 ((namedL (nameSub s k)).getD []) false k (whileL isReg s (k + 1))) (nameE s k)) := by
  unfold big at hs
  refine p136 hE fun l => ?_
  conv => whnf
  refine ⟨by unfold inI64; omega, ?_⟩
  conv => whnf
  refine CallG.e (while_ hE s (k + 1) 77 isReg (by unfold big; omega) hk (regular hE)) ?_
  have hw := whileL_le isReg s (k + 1) hk
  conv => whnf
  refine ⟨by unfold inI64; omega, ?_⟩
  conv => whnf
  refine ⟨by omega, ?_⟩
  have e1 : ((k : Int) + 1).toNat = k + 1 := by omega
  have e2 : ((s.drop ((k : Int) + 1).toNat).take ((whileL isReg s (k + 1) : Int).toNat - ((k : Int) + 1).toNat)) = nameSub s k := by
    rw [e1, Int.toNat_natCast, take_whileL]; rfl
  rw [e2]
  have hn : (nameSub s k).length < big := by
    have := (List.takeWhile_sublist isReg (l := s.drop (k + 1))).length_le
    simp at this
    unfold nameSub big; omega
  conv => whnf
  refine CallG.e (named hE (nameSub s k) hn) ?_
  cases ho : namedL (nameSub s k) with
  | none =>
    conv => whnf
    refine RetG.drop rfl rfl rfl ⟨rfl, ?_, rfl⟩
    simp only [nameE, ho]; rfl
  | some t =>
    conv => whnf
    refine RetG.drop rfl rfl rfl ⟨rfl, ?_, rfl⟩
    simp only [nameE, ho]; rfl
end Ink.D

namespace Ink.D
open Go Go.Proofs
set_option maxRecDepth 100000
variable {E : Env} (hE : E.P = Tryz.prog)

def isOct (c : UInt8) : Bool := decide (48 ≤ c ∧ c ≤ 55)

/-- up to n digits of eight -/
def octG : Nat → List UInt8 → Nat → Nat × Nat
  | 0, _, v => (v, 0)
  | _ + 1, [], v => (v, 0)
  | n + 1, c :: r, v => if isOct c then let (w, k) := octG n r (v * 8 + (c.toNat - 48)); (w, k + 1) else (v, 0)

def octalL (s : List UInt8) : Nat × Nat := octG 3 s 0

theorem octG_le : ∀ (n : Nat) (s : List UInt8) (v : Nat), (octG n s v).2 ≤ n ∧ (octG n s v).2 ≤ s.length
  | 0, _, _ => by simp [octG]
  | _ + 1, [], _ => by simp [octG]
  | n + 1, c :: r, v => by
    rw [octG]
    have := octG_le n r (v * 8 + (c.toNat - 48))
    split
    · simp only [List.length_cons]; omega
    · simp

theorem shl3 (v : Nat) (h : v < 64) (c : UInt8) (hc : isOct c = true) :
    bits .or .i64 (IntKind.wrap .i64 ((v : Int) * 2 ^ (min (3 : Int).toNat (IntKind.bits .i64)))) (IntKind.wrap .u8 ((c.toNat : Int) - 48)) = ((v * 8 + (c.toNat - 48) : Nat) : Int) := by
  have key : ∀ v, v < 64 → ∀ d, d < 8 → bits .or .i64 (IntKind.wrap .i64 ((v : Nat) * 2 ^ (min (3 : Int).toNat (IntKind.bits .i64)))) (d : Nat) = ((v * 8 + d : Nat) : Int) := by decide +kernel
  have hc' : 48 ≤ c.toNat ∧ c.toNat ≤ 55 := by
    simp only [isOct, decide_eq_true_eq, UInt8.le_iff_toNat_le] at hc
    exact hc
  have e : IntKind.wrap .u8 ((c.toNat : Int) - 48) = ((c.toNat - 48 : Nat) : Int) := by
    have : ((c.toNat : Int) - 48) = ((c.toNat - 48 : Nat) : Int) := by omega
    rw [this, wrap_u8 _ (by omega)]
  rw [e]
  exact key v h _ (by omega)

def octAV (x : Nat × Nat) : AV := .tup [.int .u8 (IntKind.wrap .u8 (x.1 : Int)), .int .i64 x.2]

include hE
theorem octal (s : List UInt8) (hs : s.length < big) : PCalls E 157 [.str s] (· = octAV (octalL s)) := by
  unfold big at hs
  refine p157 hE fun l => ?_
  conv => whnf
  refine LoopG.s (fun x : Nat × Nat => x.2 ≤ 3 ∧ x.2 ≤ s.length ∧ x.1 < 8 ^ x.2 ∧ octalL s = ((octG (3 - x.2) (s.drop x.2) x.1).1, (octG (3 - x.2) (s.drop x.2) x.1).2 + x.2)) 36 (fun x => [(0, .str s), (4, .int .i64 x.2), (5, .int .i64 x.1)]) (fun _ => frm l) (fun x => 3 - x.2) (0, 0) ⟨by simp, by simp, by simp, by simp [octalL]⟩ rfl ⟨rfl, rfl, rfl⟩ rfl ?_
  rintro ⟨v, n⟩ ⟨h1, h2, h3, h4⟩
  simp only at h1 h2 h3 h4
  dsimp only
  conv => whnf
  refine ⟨by omega, ?_⟩
  conv => whnf
  have emin : (if false = true then if (3 : Int) > (s.length : Int) then (3 : Int) else (s.length : Int) else if (3 : Int) < (s.length : Int) then (3 : Int) else (s.length : Int)) = ((min s.length 3 : Nat) : Int) := by
    simp only [Bool.false_eq_true, if_false]; split <;> omega
  rw [emin]
  have stop : (octG (3 - n) (s.drop n) v = (v, 0)) → octalL s = (v, n) := fun h => by rw [h4, h]; simp
  split
  · rename_i hlt
    have hlt : n < s.length ∧ n < 3 := by simp at hlt; omega
    have hg := getD_at s n hlt.1
    have hd := List.drop_eq_getElem_cons hlt.1
    obtain ⟨m, hm⟩ : ∃ m, 3 - n = m + 1 := ⟨2 - n, by omega⟩
    conv => whnf
    refine ⟨by omega, ?_⟩
    conv => whnf
    split
    · rename_i h48
      rw [hg] at h48
      conv => whnf
      refine ⟨by omega, ?_⟩
      conv => whnf
      split
      · rename_i h55
        rw [hg] at h55
        have ho : isOct s[n] = true := by
          simp only [isOct, decide_eq_true_eq, UInt8.le_iff_toNat_le]
          simp at h48 h55
          exact ⟨by show 48 ≤ _; omega, by show _ ≤ 55; omega⟩
        have hv : v < 64 := by
          have : (8 : Nat) ^ n ≤ 8 ^ 2 := Nat.pow_le_pow_right (by decide) (by omega)
          omega
        have hc7 : 48 ≤ s[n].toNat ∧ s[n].toNat ≤ 55 := by simp at h48 h55; omega
        have e8 : IntKind.wrap .u8 ((s[n].toNat : Int) - 48) = ((s[n].toNat - 48 : Nat) : Int) := by
          have : ((s[n].toNat : Int) - 48) = ((s[n].toNat - 48 : Nat) : Int) := by omega
          rw [this, wrap_u8 _ (by omega)]
        conv => whnf
        refine ⟨by decide, ?_⟩
        conv => whnf
        refine ⟨by omega, ?_⟩
        conv => whnf
        rw [hg]
        refine ⟨by rw [e8]; unfold inI64; omega, ?_⟩
        conv => whnf
        refine ⟨by unfold inI64; omega, ?_⟩
        rw [shl3 v hv _ ho]
        conv => whnf
        refine ⟨(v * 8 + (s[n].toNat - 48), n + 1), ⟨⟨by simp; omega, by simp; omega, ?_, ?_⟩, by simp; omega⟩, Wk.slots rfl ⟨rfl, rfl, rfl⟩⟩
        · simp only [Nat.pow_succ]; omega
        · rw [h4, hm, hd]
          have : 3 - (n + 1) = m := by omega
          simp only [octG, ho, if_true, this]
          simp; omega
      · rename_i h55
        rw [hg] at h55
        have ho : isOct s[n] = false := by
          simp only [isOct, decide_eq_false_iff_not, UInt8.le_iff_toNat_le]
          simp at h55
          intro h
          have : s[n].toNat ≤ 55 := h.2
          omega
        conv => whnf
        refine RetG.q ⟨rfl, ?_, rfl⟩
        rw [stop (by rw [hm, hd]; simp [octG, ho])]; rfl
    · rename_i h48
      rw [hg] at h48
      have ho : isOct s[n] = false := by
        simp only [isOct, decide_eq_false_iff_not, UInt8.le_iff_toNat_le]
        simp at h48
        intro h
        have : 48 ≤ s[n].toNat := h.1
        omega
      conv => whnf
      refine RetG.q ⟨rfl, ?_, rfl⟩
      rw [stop (by rw [hm, hd]; simp [octG, ho])]; rfl
  · rename_i hlt
    have hlt : s.length ≤ n ∨ 3 ≤ n := by simp at hlt; omega
    conv => whnf
    refine RetG.q ⟨rfl, ?_, rfl⟩
    rw [stop ?_]
    · rfl
    · rcases hlt with h | h
      · rw [List.drop_eq_nil_of_le h]
        cases (3 - n) <;> rfl
      · have : 3 - n = 0 := by omega
        rw [this]; rfl
end Ink.D

namespace Ink.D
open Go Go.Proofs
set_option maxRecDepth 100000
variable {E : Env} (hE : E.P = Tryz.prog)

/-- what one letter behind a backslash is -/
def escC (c : UInt8) : List UInt8 :=
  if c = 110 then [10] else if c = 114 then [13] else if c = 116 then [9] else if c = 98 then [8] else if c = 102 then [12] else if c = 10 then [] else if c = 13 then [] else [c]

/-- what stands behind a backslash: its bytes, and how many they take -/
def escL (s : List UInt8) : List UInt8 × Nat :=
  let x := octalL s
  if 0 < x.2 then ([UInt8.ofNat x.1], x.2) else if List.isPrefixOf [13, 10] s then ([], 2) else match s with
    | [] => ([], 1)
    | c :: _ => (escC c, 1)

theorem escC_ix (c : UInt8) : (ix [110, 114, 116, 98, 102, 10, 13] c < 0 → escC c = [c]) ∧ (0 ≤ ix [110, 114, 116, 98, 102, 10, 13] c ∧ ix [110, 114, 116, 98, 102, 10, 13] c < 5 → escC c = [([10, 13, 9, 8, 12] : List UInt8).getD (ix [110, 114, 116, 98, 102, 10, 13] c).toNat 0]) ∧
    (5 ≤ ix [110, 114, 116, 98, 102, 10, 13] c → escC c = []) := by
  revert c
  refine u8all ?_
  decide +kernel

theorem wrap_ofNat (n : Nat) : IntKind.wrap .u8 (n : Int) = ((UInt8.ofNat n).toNat : Int) := by
  simp only [IntKind.wrap, IntKind.bits, IntKind.signed, Bool.false_and, Bool.false_eq_true, if_false]
  rw [UInt8.toNat_ofNat']
  omega

include hE
theorem escaped (bs s : List UInt8) (hs : bs.length + s.length < big) (h0 : s ≠ []) : BCalls E 147 [.ptr 1 0 0, .str s] [.bld 59 5 bs] fun r ks => r = .int .i64 (escL s).2 ∧ ks = [.bld 59 5 (bs ++ (escL s).1)] := by
  unfold big at hs
  refine b147 hE fun l => ?_
  conv => whnf
  refine CallG.e (octal hE s (by unfold big; omega)) ?_
  generalize hx : octalL s = x
  obtain ⟨v, n⟩ := x
  conv => whnf
  split
  · rename_i hn
    have hn : 0 < n := by simpa using hn
    have he : escL s = ([UInt8.ofNat v], n) := by simp [escL, hx, hn]
    conv => whnf
    rw [show ((v, n).1 : Int) = (v : Int) from rfl, wrap_ofNat]
    refine CallG.b [(1, 0)] (writeByte hE bs (UInt8.ofNat v) (by omega)) ⟨rfl, trivial⟩ ⟨.ptr 0 1 0 0 rfl, .same _ rfl, trivial⟩ (fun r ks' hq _ _ => ?_)
    obtain ⟨rfl, rfl⟩ := hq
    conv => whnf
    refine RetG.b (ks' := [.bld 59 5 (bs ++ [UInt8.ofNat v])]) rfl rfl rfl rfl rfl rfl ⟨?_, ?_⟩ <;> rw [he]
  · rename_i hn
    have hn : n = 0 := by simp at hn; omega
    conv => whnf
    refine CallG.e (hasPrefix hE s [13, 10] (by unfold big; omega) (by decide)) ?_
    conv => whnf
    split
    · rename_i hp
      have he : escL s = ([], 2) := by simp [escL, hx, hn, hp]
      conv => whnf
      refine RetG.b (ks' := [.bld 59 5 bs]) rfl rfl rfl rfl rfl rfl ⟨?_, ?_⟩ <;> rw [he]
      · rfl
      · simp
    · rename_i hp
      match s, h0, hs, hx, hp with
      | c :: r, h0, hs, hx, hp =>
        have he : escL (c :: r) = (escC c, 1) := by simp only [escL, hx, hn, hp]; simp
        obtain ⟨i1, i2, i3⟩ := escC_ix c
        conv => whnf
        refine ⟨by simp, ?_⟩
        conv => whnf
        refine CallG.e (index47 hE [110, 114, 116, 98, 102, 10, 13] c (by decide)) ?_
        generalize ix [110, 114, 116, 98, 102, 10, 13] c = j at *
        conv => whnf
        split
        · rename_i hj
          have hj : j < 0 := by simpa using hj
          conv => whnf
          refine ⟨by simp, ?_⟩
          conv => whnf
          refine CallG.b [(1, 0)] (writeByte hE bs c (by simp at hs; omega)) ⟨rfl, trivial⟩ ⟨.ptr 0 1 0 0 rfl, .same _ rfl, trivial⟩ (fun r ks' hq _ _ => ?_)
          obtain ⟨rfl, rfl⟩ := hq
          conv => whnf
          refine RetG.b (ks' := [.bld 59 5 (bs ++ [c])]) rfl rfl rfl rfl rfl rfl ⟨?_, ?_⟩ <;> rw [he]
          · rfl
          · rw [i1 hj]
        · rename_i hj
          have hj : 0 ≤ j := by simp at hj; omega
          conv => whnf
          split
          · rename_i hj5
            have hj5 : j < 5 := by simpa using hj5
            conv => whnf
            refine ⟨by simp; omega, ?_⟩
            conv => whnf
            refine CallG.b [(1, 0)] (writeByte hE bs (([10, 13, 9, 8, 12] : List UInt8).getD j.toNat 0) (by simp at hs; omega)) ⟨rfl, trivial⟩ ⟨.ptr 0 1 0 0 rfl, .same _ rfl, trivial⟩ (fun r ks' hq _ _ => ?_)
            obtain ⟨rfl, rfl⟩ := hq
            conv => whnf
            refine RetG.b (ks' := [.bld 59 5 (bs ++ [([10, 13, 9, 8, 12] : List UInt8).getD j.toNat 0])]) rfl rfl rfl rfl rfl rfl ⟨?_, ?_⟩ <;> rw [he]
            · rfl
            · rw [i2 ⟨hj, hj5⟩]
          · rename_i hj5
            have hj5 : 5 ≤ j := by simp at hj5; omega
            conv => whnf
            refine RetG.b (ks' := [.bld 59 5 bs]) rfl rfl rfl rfl rfl rfl ⟨?_, ?_⟩ <;> rw [he]
            · rfl
            · rw [i3 hj5]; simp
end Ink.D

namespace Ink.D
open Go Go.Proofs
set_option maxRecDepth 100000
variable {E : Env} (hE : E.P = Tryz.prog)

theorem escL_le (s : List UInt8) (h : s ≠ []) : 1 ≤ (escL s).2 ∧ (escL s).2 ≤ s.length ∧ (escL s).1.length ≤ 1 := by
  have h1 := octG_le 3 s 0
  unfold escL octalL
  simp only
  split
  · simp; omega
  · split
    · rename_i hp
      have := (List.isPrefixOf_iff_prefix.mp hp).length_le
      simp at this
      simp; omega
    · match s, h with
      | c :: r, _ =>
        refine ⟨Nat.le_refl _, by simp, ?_⟩
        unfold escC
        repeat' split
        all_goals simp

/-- the text behind a parenthesis, and how many bytes it takes -/
def textL (s : List UInt8) (d : Nat) : Option (List UInt8 × Nat) :=
  match s with
  | [] => none
  | c :: r =>
    if c = 92 then
      if r = [] then none else (textL (r.drop (escL r).2) d).map fun x => ((escL r).1 ++ x.1, 1 + (escL r).2 + x.2)
    else if c = 40 then (textL r (d + 1)).map fun x => (c :: x.1, 1 + x.2)
    else if c = 41 then
      match d with
      | 0 => some ([], 1)
      | d + 1 => (textL r d).map fun x => (c :: x.1, 1 + x.2)
    else if c = 13 then
      if List.isPrefixOf [13, 10] (c :: r) then (textL r d).map fun x => (x.1, 1 + x.2) else (textL r d).map fun x => (10 :: x.1, 1 + x.2)
    else (textL r d).map fun x => (c :: x.1, 1 + x.2)
termination_by s.length
decreasing_by all_goals (simp; try omega)

theorem textL_cons (c : UInt8) (r : List UInt8) (d : Nat) : textL (c :: r) d =
    if c = 92 then
      if r = [] then none else (textL (r.drop (escL r).2) d).map fun x => ((escL r).1 ++ x.1, 1 + (escL r).2 + x.2)
    else if c = 40 then (textL r (d + 1)).map fun x => (c :: x.1, 1 + x.2)
    else if c = 41 then
      match d with
      | 0 => some ([], 1)
      | d + 1 => (textL r d).map fun x => (c :: x.1, 1 + x.2)
    else if c = 13 then
      if List.isPrefixOf [13, 10] (c :: r) then (textL r d).map fun x => (x.1, 1 + x.2) else (textL r d).map fun x => (10 :: x.1, 1 + x.2)
    else (textL r d).map fun x => (c :: x.1, 1 + x.2) := by
  rw [textL.eq_def]

theorem textL_nil (d : Nat) : textL [] d = none := by rw [textL]

def textAV (k : Nat) (o : Option (List UInt8 × Nat)) : AV := match o with
  | some x => tkE (tk 3 0 x.1 false k (k + 1 + x.2 : Nat)) 0
  | none => tkE (tk 0 0 [] false 0 0) 4

def tkC (kind f : Int) (s : List UInt8) (whole : Bool) (from_ to : Int) : List AV := [.int .i64 kind, .int .i64 f, .str s, .bool whole, .int .i64 from_, .int .i64 to]

include hE
theorem text (s : List UInt8) (k : Nat) (hs : s.length < big) (hk : k < s.length) : PCalls E 137 [.str s, tk 0 0 [] false k 0] (· = textAV k (textL (s.drop (k + 1)) 0)) := by
  unfold big at hs
  refine p137 hE fun l => ?_
  conv => whnf
  refine ⟨by unfold inI64; omega, ?_⟩
  conv => whnf
  refine LoopG.s (fun x : Nat × Nat × List UInt8 => k < x.1 ∧ x.1 ≤ s.length ∧ x.2.1 ≤ x.1 ∧ x.2.2.length ≤ x.1 ∧ textL (s.drop (k + 1)) 0 = (textL (s.drop x.1) x.2.1).map fun y => (x.2.2 ++ y.1, x.1 - (k + 1) + y.2)) 68
    (fun x => [(0, .str s), (3, .ptr 1 0 0), (4, .ptr 2 0 0), (6, .ptr 3 0 0), (7, .int .i64 x.2.1), (8, .int .i64 x.1)])
    (fun x => [⟨0, true, .frame l⟩, ⟨0, true, .cells 93 (tkC 0 0 [] false k 0)⟩, ⟨0, true, .cells 93 (tkC 0 0 [] false 0 0)⟩, ⟨0, true, .bld 59 5 x.2.2⟩]) (fun x => s.length - x.1) (k + 1, 0, []) ⟨by simp, by simp; omega, by simp, by simp, by simp⟩ rfl ⟨rfl, rfl, rfl, rfl, rfl, rfl⟩ rfl ?_
  rintro ⟨at_, d, bs⟩ ⟨h1, h2, h3, h4, h5⟩
  simp only at h1 h2 h3 h4 h5
  dsimp only
  conv => whnf
  refine ⟨by omega, ?_⟩
  conv => whnf
  split
  · rename_i hlt
    have hlt : at_ < s.length := by simpa using hlt
    have hg := getD_at s at_ hlt
    have hd := List.drop_eq_getElem_cons hlt
    rw [hd] at h5
    have hnx : ∀ (d' : Nat) (b : List UInt8), textL (s[at_] :: s.drop (at_ + 1)) d = (textL (s.drop (at_ + 1)) d').map (fun x => (b ++ x.1, 1 + x.2)) → d' ≤ at_ + 1 → b.length ≤ 1 →
        ((k < at_ + 1 ∧ at_ + 1 ≤ s.length ∧ d' ≤ at_ + 1 ∧ (bs ++ b).length ≤ at_ + 1 ∧ textL (s.drop (k + 1)) 0 = (textL (s.drop (at_ + 1)) d').map fun y => ((bs ++ b) ++ y.1, at_ + 1 - (k + 1) + y.2)) ∧ s.length - (at_ + 1) < s.length - at_) := by
      intro d' b he hd' hb
      refine ⟨⟨by omega, by omega, hd', by simp; omega, ?_⟩, by omega⟩
      rw [h5, he, Option.map_map]
      congr 1
      funext x
      simp only [Function.comp_def, List.append_assoc]
      congr 1
      omega
    generalize hc : s[at_] = c at *
    conv => whnf
    refine ⟨by omega, ?_⟩
    rw [hg]
    conv => whnf
    split
    · rename_i h92
      have h92 : c = 92 := by simpa [zEq] using h92
      conv => whnf
      refine ⟨by unfold inI64; omega, ?_⟩
      conv => whnf
      refine ⟨by omega, ?_⟩
      conv => whnf
      split
      · rename_i he
        have he : at_ + 1 = s.length := by simp at he; omega
        conv => whnf
        refine RetG.drop rfl rfl rfl ⟨rfl, ?_, rfl⟩
        rw [h5, textL_cons, List.drop_eq_nil_of_le (by omega)]
        simp only [h92, if_true]
        rfl
      · rename_i he
        have he : at_ + 1 < s.length := by simp at he; omega
        conv => whnf
        refine ⟨by unfold inI64; omega, ?_⟩
        conv => whnf
        refine ⟨by omega, ?_⟩
        have e1 : ((at_ : Int) + 1).toNat = at_ + 1 := by omega
        have hne : s.drop (at_ + 1) ≠ [] := by simp; omega
        have hle := escL_le _ hne
        have hdl : (s.drop (at_ + 1)).length = s.length - (at_ + 1) := List.length_drop
        conv => whnf
        rw [e1]
        refine CallG.b [(3, 0)] (escaped hE bs (s.drop (at_ + 1)) (by unfold big; omega) hne) ⟨rfl, trivial⟩ ⟨.ptr 0 3 0 0 rfl, .same _ rfl, trivial⟩ (fun r ks' hq _ _ => ?_)
        obtain ⟨rfl, rfl⟩ := hq
        conv => whnf
        refine ⟨by unfold inI64; omega, ?_⟩
        conv => whnf
        refine ⟨by unfold inI64; omega, ?_⟩
        conv => whnf
        refine ⟨(at_ + 1 + (escL (s.drop (at_ + 1))).2, d, bs ++ (escL (s.drop (at_ + 1))).1), ⟨⟨by simp; omega, by simp; omega, by simp; omega, by simp; omega, ?_⟩, by simp; omega⟩, Wk.slots rfl ⟨rfl, rfl, rfl, rfl, rfl, ?_⟩⟩
        · rw [h5, textL_cons]
          simp only [h92, hne, if_true, if_false, List.drop_drop]
          rw [Option.map_map]
          congr 1
          funext x
          simp only [Function.comp_def, List.append_assoc]
          congr 1
          omega
        · refine congrArg (fun n => some (AV.int .i64 n)) ?_
          show (at_ : Int) + _ + 1 = _
          simp; omega
    · rename_i h92
      have h92 : c ≠ 92 := by simpa [zEq] using h92
      have hWB : ∀ b : UInt8, BCalls E 56 [.ptr 1 0 0, .int .u8 (b.toNat : Int)] [.bld 59 5 bs] fun r ks => r = .lit .nilIface ∧ ks = [.bld 59 5 (bs ++ [b])] := fun b => writeByte hE bs b (by omega)
      conv => whnf
      split
      · rename_i h40
        have h40 : c = 40 := by simpa [zEq] using h40
        conv => whnf
        refine ⟨by unfold inI64; omega, ?_⟩
        conv => whnf
        refine ⟨by omega, ?_⟩
        rw [hg]
        conv => whnf
        refine CallG.b [(3, 0)] (hWB c) ⟨rfl, trivial⟩ ⟨.ptr 0 3 0 0 rfl, .same _ rfl, trivial⟩ (fun r ks' hq _ _ => ?_)
        obtain ⟨rfl, rfl⟩ := hq
        conv => whnf
        refine ⟨by unfold inI64; omega, ?_⟩
        conv => whnf
        refine ⟨(at_ + 1, d + 1, bs ++ [c]), hnx (d + 1) [c] ?_ (by omega) (by simp), Wk.slots rfl ⟨rfl, rfl, rfl, rfl, rfl, rfl⟩⟩
        rw [textL_cons]; simp [h40]
      · rename_i h40
        have h40 : c ≠ 40 := by simpa [zEq] using h40
        conv => whnf
        split
        · rename_i h41
          have h41 : c = 41 := by simpa [zEq] using h41
          conv => whnf
          cases d with
          | zero =>
            conv => whnf
            refine CallG.b [(3, 0)] (string hE bs (by omega)) ⟨rfl, trivial⟩ ⟨.ptr 0 3 0 0 rfl, trivial⟩ (fun r ks' hq _ _ => ?_)
            obtain ⟨rfl, rfl⟩ := hq
            conv => whnf
            refine ⟨by unfold inI64; omega, ?_⟩
            conv => whnf
            refine RetG.drop rfl rfl rfl ⟨rfl, ?_, rfl⟩
            rw [h5, textL_cons]
            subst h41
            show AV.tup [tk 3 0 bs false k ((at_ : Int) + 1), _] = AV.tup [tk 3 0 (bs ++ []) false k ((k + 1 + (at_ - (k + 1) + 1) : Nat) : Int), _]
            rw [List.append_nil]
            have : ((at_ : Int) + 1) = ((k + 1 + (at_ - (k + 1) + 1) : Nat) : Int) := by omega
            rw [this]
          | succ d =>
            have hdd : decide (((d + 1 : Nat) : Int) = 0) = false := by simp; omega
            rw [hdd]
            conv => whnf
            refine ⟨by unfold inI64; omega, ?_⟩
            conv => whnf
            refine ⟨by omega, ?_⟩
            rw [hg]
            conv => whnf
            refine CallG.b [(3, 0)] (hWB c) ⟨rfl, trivial⟩ ⟨.ptr 0 3 0 0 rfl, .same _ rfl, trivial⟩ (fun r ks' hq _ _ => ?_)
            obtain ⟨rfl, rfl⟩ := hq
            conv => whnf
            refine ⟨by unfold inI64; omega, ?_⟩
            conv => whnf
            refine ⟨(at_ + 1, d, bs ++ [c]), hnx d [c] ?_ (by omega) (by simp), Wk.slots rfl ⟨rfl, rfl, rfl, rfl, ?_, rfl⟩⟩
            · rw [textL_cons]; simp [h41]
            · refine congrArg (fun n => some (AV.int .i64 n)) ?_
              show ((d + 1 : Nat) : Int) - 1 = (d : Int)
              omega
        · rename_i h41
          have h41 : c ≠ 41 := by simpa [zEq] using h41
          conv => whnf
          split
          · rename_i h13
            have h13 : c = 13 := by simpa [zEq] using h13
            conv => whnf
            refine ⟨by omega, ?_⟩
            have e1 : s.drop (at_ : Int).toNat = c :: s.drop (at_ + 1) := by rw [Int.toNat_natCast, hd]
            rw [e1]
            conv => whnf
            refine CallG.e (hasPrefix hE (c :: s.drop (at_ + 1)) [13, 10] (by unfold big; simp; omega) (by decide)) ?_
            cases hp : List.isPrefixOf [13, 10] (c :: s.drop (at_ + 1)) with
            | true =>
              conv => whnf
              refine ⟨by unfold inI64; omega, ?_⟩
              conv => whnf
              have hq := hnx d [] (by subst h13; rw [textL_cons]; simp [hp]) (by omega) (by simp)
              rw [List.append_nil] at hq
              exact ⟨(at_ + 1, d, bs), hq, Wk.slots rfl ⟨rfl, rfl, rfl, rfl, rfl, rfl⟩⟩
            | false =>
              conv => whnf
              refine CallG.b [(3, 0)] (hWB 10) ⟨rfl, trivial⟩ ⟨.ptr 0 3 0 0 rfl, .same _ rfl, trivial⟩ (fun r ks' hq _ _ => ?_)
              obtain ⟨rfl, rfl⟩ := hq
              conv => whnf
              refine ⟨by unfold inI64; omega, ?_⟩
              conv => whnf
              refine ⟨(at_ + 1, d, bs ++ [10]), hnx d [10] ?_ (by omega) (by simp), Wk.slots rfl ⟨rfl, rfl, rfl, rfl, rfl, rfl⟩⟩
              subst h13; rw [textL_cons]; simp [hp]
          · rename_i h13
            have h13 : c ≠ 13 := by simpa [zEq] using h13
            conv => whnf
            refine ⟨by omega, ?_⟩
            rw [hg]
            conv => whnf
            refine CallG.b [(3, 0)] (hWB c) ⟨rfl, trivial⟩ ⟨.ptr 0 3 0 0 rfl, .same _ rfl, trivial⟩ (fun r ks' hq _ _ => ?_)
            obtain ⟨rfl, rfl⟩ := hq
            conv => whnf
            refine ⟨by unfold inI64; omega, ?_⟩
            conv => whnf
            refine ⟨(at_ + 1, d, bs ++ [c]), hnx d [c] ?_ (by omega) (by simp), Wk.slots rfl ⟨rfl, rfl, rfl, rfl, rfl, rfl⟩⟩
            rw [textL_cons]; simp [h40, h41, h92, h13]
  · rename_i hlt
    have hlt : s.length ≤ at_ := by simpa using hlt
    conv => whnf
    refine RetG.drop rfl rfl rfl ⟨rfl, ?_, rfl⟩
    rw [h5, List.drop_eq_nil_of_le hlt, textL_nil]
    rfl
end Ink.D
