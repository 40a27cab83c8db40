/- The functions of the places: what each computes, and that it does. -/
import Derived.Test.YtjbgpcpamdbjlaaDoorRT
namespace Go.Proofs.YtjbgpcpamdbjlaaDoor
open Go Go.Ev

theorem mixed : Tryd.prog.follows .mixedOrders = true := by kernel_rfl

/-! ### mod -/
def modF (x : Int × Int) : Option (Int) :=
  brn (decide (x.snd = 0)) none (brn (decide (x.snd = 0)) none (some ((IntKind.i64.wrap (x.fst.tmod x.snd + x.snd)).tmod x.snd)))
def modS : FSpec tb := ⟨[(0, .val 3), (1, .val 3)], [(0, .val 3)], modF⟩
theorem mod_eq : ∀ x, evFn Tryd.prog tb [] [] Tryd.f32 modS.ins modS.outs x = modS.f x := fun x => by kernel_rfl
theorem mod_k : fnK Tryd.f32 modS.ins modS.outs = true := by kernel_rfl
theorem mod_sound : FnSound Tryd.prog tb 32 modS := fn_ev mixed Tryd.func32 mod_k .nil rfl mod_eq

/-! ### sum -/
def sumF (x : Int × Int × Int) : Option (Int) :=
  obnd (modF (x.fst, x.2.snd)) fun y => obnd (modF x.2) fun y_1 => obnd (modF (IntKind.i64.wrap (y + y_1), x.2.snd)) fun y => some y
def sumS : FSpec tb := ⟨[(0, .val 3), (1, .val 3), (2, .val 3)], [(0, .val 3)], sumF⟩
theorem sum_eq : ∀ x, evFn Tryd.prog tb [(32, modS)] [] Tryd.f33 sumS.ins sumS.outs x = sumS.f x := fun x => by kernel_rfl
theorem sum_k : fnK Tryd.f33 sumS.ins sumS.outs = true := by kernel_rfl
theorem sum_sound : FnSound Tryd.prog tb 33 sumS := fn_ev mixed Tryd.func33 sum_k (.cons mod_sound .nil) rfl sum_eq

/-! ### imod -/
def imodF (x : Int × Int) : Option (Int) :=
  brn (decide (x.snd = 0)) none (brn (decide (x.fst.tmod x.snd < 0)) (some (IntKind.i64.wrap (x.fst.tmod x.snd + x.snd))) (some (x.fst.tmod x.snd)))
def imodS : FSpec tb := ⟨[(0, .val 3), (1, .val 3)], [(0, .val 3)], imodF⟩
theorem imod_eq : ∀ x, evFn Tryd.prog tb [] [] Tryd.f34 imodS.ins imodS.outs x = imodS.f x := fun x => by kernel_rfl
theorem imod_k : fnK Tryd.f34 imodS.ins imodS.outs = true := by kernel_rfl
theorem imod_sound : FnSound Tryd.prog tb 34 imodS := fn_ev mixed Tryd.func34 imod_k .nil rfl imod_eq

/-! ### good -/
def goodF (x : Cell) : Option (Bool) :=
  brn (decide (0 ≤ x.Row)) (brn (decide (x.Row < 65536)) (brn (decide (0 ≤ x.Col)) (some (decide (x.Col < 256))) (some false)) (some false)) (some false)
def goodS : FSpec tb := ⟨[(0, .val 25)], [(0, .val 4)], goodF⟩
theorem good_eq : ∀ x, evFn Tryd.prog tb [] [] Tryd.f13 goodS.ins goodS.outs x = goodS.f x := fun x => by kernel_rfl
theorem good_k : fnK Tryd.f13 goodS.ins goodS.outs = true := by kernel_rfl
theorem good_sound : FnSound Tryd.prog tb 13 goodS := fn_ev mixed Tryd.func13 good_k .nil rfl good_eq

/-! ### igood -/
def igoodF (x : Cell) : Option (Bool) :=
  brn (decide (0 ≤ x.Row)) (brn (decide (x.Row < 65536)) (brn (decide (0 ≤ x.Col)) (some (decide (x.Col < 256))) (some false)) (some false)) (some false)
def igoodS : FSpec tb := ⟨[(0, .val 34)], [(0, .val 4)], igoodF⟩
theorem igood_eq : ∀ x, evFn Tryd.prog tb [] [] Tryd.f14 igoodS.ins igoodS.outs x = igoodS.f x := fun x => by kernel_rfl
theorem igood_k : fnK Tryd.f14 igoodS.ins igoodS.outs = true := by kernel_rfl
theorem igood_sound : FnSound Tryd.prog tb 14 igoodS := fn_ev mixed Tryd.func14 igood_k .nil rfl igood_eq

/-! ### check -/
def checkF (x : Ref) : Option (Int) :=
  obnd (goodF { Row := x.Row, Col := x.Col }) fun y => brn (!y) (some 12) (some 0)
def checkS : FSpec tb := ⟨[(0, .val 23)], [(0, .val 27)], checkF⟩
theorem check_eq : ∀ x, evFn Tryd.prog tb [(13, goodS)] [] Tryd.f10 checkS.ins checkS.outs x = checkS.f x := fun x => by kernel_rfl
theorem check_k : fnK Tryd.f10 checkS.ins checkS.outs = true := by kernel_rfl
theorem check_sound : FnSound Tryd.prog tb 10 checkS := fn_ev mixed Tryd.func10 check_k (.cons good_sound .nil) rfl check_eq

/-! ### icheck -/
def icheckF (x : Ref) : Option (Int) :=
  obnd (igoodF { Row := x.Row, Col := x.Col }) fun y => brn (!y) (some 12) (some 0)
def icheckS : FSpec tb := ⟨[(0, .val 30)], [(0, .val 3)], icheckF⟩
theorem icheck_eq : ∀ x, evFn Tryd.prog tb [(14, igoodS)] [] Tryd.f11 icheckS.ins icheckS.outs x = icheckS.f x := fun x => by kernel_rfl
theorem icheck_k : fnK Tryd.f11 icheckS.ins icheckS.outs = true := by kernel_rfl
theorem icheck_sound : FnSound Tryd.prog tb 11 icheckS := fn_ev mixed Tryd.func11 icheck_k (.cons igood_sound .nil) rfl icheck_eq

/-! ### checkA -/
def checkAF (x : Area) : Option (Int) :=
  obnd (checkF x.A) fun y => obnd (checkF x.B) fun y_1 => some (bif decide (y < y_1) then y_1 else y)
def checkAS : FSpec tb := ⟨[(0, .val 42)], [(0, .val 27)], checkAF⟩
theorem checkA_eq : ∀ x, evFn Tryd.prog tb [(10, checkS)] [] Tryd.f23 checkAS.ins checkAS.outs x = checkAS.f x := fun x => by kernel_rfl
theorem checkA_k : fnK Tryd.f23 checkAS.ins checkAS.outs = true := by kernel_rfl
theorem checkA_sound : FnSound Tryd.prog tb 23 checkAS := fn_ev mixed Tryd.func23 checkA_k (.cons check_sound .nil) rfl checkA_eq

/-! ### icheckA -/
def icheckAF (x : Area) : Option (Int) :=
  obnd (icheckF x.A) fun y => brn (!decide (y = 0)) (some 12) (obnd (icheckF x.B) fun y => some y)
def icheckAS : FSpec tb := ⟨[(0, .val 48)], [(0, .val 3)], icheckAF⟩
theorem icheckA_eq : ∀ x, evFn Tryd.prog tb [(11, icheckS)] [] Tryd.f24 icheckAS.ins icheckAS.outs x = icheckAS.f x := fun x => by kernel_rfl
theorem icheckA_k : fnK Tryd.f24 icheckAS.ins icheckAS.outs = true := by kernel_rfl
theorem icheckA_sound : FnSound Tryd.prog tb 24 icheckAS := fn_ev mixed Tryd.func24 icheckA_k (.cons icheck_sound .nil) rfl icheckA_eq

/-! ### of -/
def ofF (x : Ref) : Option (Ref) :=
  some x
def ofS : FSpec tb := ⟨[(0, .val 23)], [(0, .val 30)], ofF⟩
theorem of_eq : ∀ x, evFn Tryd.prog tb [] [] Tryd.f12 ofS.ins ofS.outs x = ofS.f x := fun x => by kernel_rfl
theorem of_k : fnK Tryd.f12 ofS.ins ofS.outs = true := by kernel_rfl
theorem of_sound : FnSound Tryd.prog tb 12 ofS := fn_ev mixed Tryd.func12 of_k .nil rfl of_eq

/-! ### ofCell -/
def ofCellF (x : Cell) : Option (Cell) :=
  some x
def ofCellS : FSpec tb := ⟨[(0, .val 25)], [(0, .val 34)], ofCellF⟩
theorem ofCell_eq : ∀ x, evFn Tryd.prog tb [] [] Tryd.f15 ofCellS.ins ofCellS.outs x = ofCellS.f x := fun x => by kernel_rfl
theorem ofCell_k : fnK Tryd.f15 ofCellS.ins ofCellS.outs = true := by kernel_rfl
theorem ofCell_sound : FnSound Tryd.prog tb 15 ofCellS := fn_ev mixed Tryd.func15 ofCell_k .nil rfl ofCell_eq

/-! ### ofArea -/
def ofAreaF (x : Area) : Option (Area) :=
  obnd (ofF x.A) fun y => obnd (ofF x.B) fun y_1 => some { A := y, B := y_1 }
def ofAreaS : FSpec tb := ⟨[(0, .val 42)], [(0, .val 48)], ofAreaF⟩
theorem ofArea_eq : ∀ x, evFn Tryd.prog tb [(12, ofS)] [] Tryd.f22 ofAreaS.ins ofAreaS.outs x = ofAreaS.f x := fun x => by kernel_rfl
theorem ofArea_k : fnK Tryd.f22 ofAreaS.ins ofAreaS.outs = true := by kernel_rfl
theorem ofArea_sound : FnSound Tryd.prog tb 22 ofAreaS := fn_ev mixed Tryd.func22 ofArea_k (.cons of_sound .nil) rfl ofArea_eq

/-! ### at -/
def atF (x : Ref × Cell) : Option (Cell) :=
  obnd (modF (x.fst.Row, 65536)) fun y =>
    obnd (modF (x.fst.Col, 256)) fun y_1 =>
      brn x.fst.RelRow
        (obnd (sumF (x.fst.Row, x.snd.Row, 65536)) fun y =>
          brn x.fst.RelCol (obnd (sumF (x.fst.Col, x.snd.Col, 256)) fun y_2 => some { Row := y, Col := y_2 }) (some { Row := y, Col := y_1 }))
        (brn x.fst.RelCol (obnd (sumF (x.fst.Col, x.snd.Col, 256)) fun y_2 => some { Row := y, Col := y_2 }) (some { Row := y, Col := y_1 }))
def atS : FSpec tb := ⟨[(0, .val 23), (1, .val 25)], [(0, .val 25)], atF⟩
theorem at_eq : ∀ x, evFn Tryd.prog tb [(32, modS), (33, sumS)] [] Tryd.f16 atS.ins atS.outs x = atS.f x := fun x => by kernel_rfl
theorem at_k : fnK Tryd.f16 atS.ins atS.outs = true := by kernel_rfl
theorem at_sound : FnSound Tryd.prog tb 16 atS := fn_ev mixed Tryd.func16 at_k (.cons mod_sound (.cons sum_sound .nil)) rfl at_eq

/-! ### iat -/
def iatF (x : Ref × Cell) : Option (Cell) :=
  obnd (imodF (x.fst.Row, 65536)) fun y =>
    obnd (imodF (x.fst.Col, 256)) fun y_1 =>
      brn x.fst.RelRow
        (obnd (imodF (x.snd.Row, 65536)) fun y_2 =>
          obnd (imodF (IntKind.i64.wrap (y + y_2), 65536)) fun y =>
            brn x.fst.RelCol (obnd (imodF (x.snd.Col, 256)) fun y_3 => obnd (imodF (IntKind.i64.wrap (y_1 + y_3), 256)) fun y_4 => some { Row := y, Col := y_4 })
              (some { Row := y, Col := y_1 }))
        (brn x.fst.RelCol (obnd (imodF (x.snd.Col, 256)) fun y_2 => obnd (imodF (IntKind.i64.wrap (y_1 + y_2), 256)) fun y_3 => some { Row := y, Col := y_3 })
          (some { Row := y, Col := y_1 }))
def iatS : FSpec tb := ⟨[(0, .val 30), (1, .val 34)], [(0, .val 34)], iatF⟩
theorem iat_eq : ∀ x, evFn Tryd.prog tb [(34, imodS)] [] Tryd.f17 iatS.ins iatS.outs x = iatS.f x := fun x => by kernel_rfl
theorem iat_k : fnK Tryd.f17 iatS.ins iatS.outs = true := by kernel_rfl
theorem iat_sound : FnSound Tryd.prog tb 17 iatS := fn_ev mixed Tryd.func17 iat_k (.cons imod_sound .nil) rfl iat_eq

/-! ### rel -/
def relF (x : Cell × Cell × Bool × Bool) : Option (Ref) :=
  obnd (modF (x.fst.Row, 65536)) fun y =>
    obnd (modF (x.fst.Col, 256)) fun y_1 =>
      brn x.2.2.fst
        (obnd (modF (x.2.fst.Row, 65536)) fun y_2 =>
          obnd (modF (IntKind.i64.wrap (y - y_2), 65536)) fun y =>
            brn x.2.2.snd
              (obnd (modF (x.2.fst.Col, 256)) fun y_3 =>
                obnd (modF (IntKind.i64.wrap (y_1 - y_3), 256)) fun y_4 => some { Row := y, Col := y_4, RelRow := x.2.2.fst, RelCol := x.2.2.snd })
              (some { Row := y, Col := y_1, RelRow := x.2.2.fst, RelCol := x.2.2.snd }))
        (brn x.2.2.snd
          (obnd (modF (x.2.fst.Col, 256)) fun y_2 =>
            obnd (modF (IntKind.i64.wrap (y_1 - y_2), 256)) fun y_3 => some { Row := y, Col := y_3, RelRow := x.2.2.fst, RelCol := x.2.2.snd })
          (some { Row := y, Col := y_1, RelRow := x.2.2.fst, RelCol := x.2.2.snd }))
def relS : FSpec tb := ⟨[(0, .val 25), (1, .val 25), (2, .val 4), (3, .val 4)], [(0, .val 23)], relF⟩
theorem rel_eq : ∀ x, evFn Tryd.prog tb [(32, modS)] [] Tryd.f18 relS.ins relS.outs x = relS.f x := fun x => by kernel_rfl
theorem rel_k : fnK Tryd.f18 relS.ins relS.outs = true := by kernel_rfl
theorem rel_sound : FnSound Tryd.prog tb 18 relS := fn_ev mixed Tryd.func18 rel_k (.cons mod_sound .nil) rfl rel_eq

/-! ### irel -/
def irelF (x : Cell × Cell × Bool × Bool) : Option (Ref) :=
  obnd (imodF (x.fst.Row, 65536)) fun y =>
    obnd (imodF (x.fst.Col, 256)) fun y_1 =>
      brn x.2.2.fst
        (obnd (imodF (x.2.fst.Row, 65536)) fun y_2 =>
          obnd (imodF (IntKind.i64.wrap (y - y_2), 65536)) fun y =>
            brn x.2.2.snd
              (obnd (imodF (x.2.fst.Col, 256)) fun y_3 =>
                obnd (imodF (IntKind.i64.wrap (y_1 - y_3), 256)) fun y_4 => some { Row := y, Col := y_4, RelRow := x.2.2.fst, RelCol := x.2.2.snd })
              (some { Row := y, Col := y_1, RelRow := x.2.2.fst, RelCol := x.2.2.snd }))
        (brn x.2.2.snd
          (obnd (imodF (x.2.fst.Col, 256)) fun y_2 =>
            obnd (imodF (IntKind.i64.wrap (y_1 - y_2), 256)) fun y_3 => some { Row := y, Col := y_3, RelRow := x.2.2.fst, RelCol := x.2.2.snd })
          (some { Row := y, Col := y_1, RelRow := x.2.2.fst, RelCol := x.2.2.snd }))
def irelS : FSpec tb := ⟨[(0, .val 34), (1, .val 34), (2, .val 4), (3, .val 4)], [(0, .val 30)], irelF⟩
theorem irel_eq : ∀ x, evFn Tryd.prog tb [(34, imodS)] [] Tryd.f19 irelS.ins irelS.outs x = irelS.f x := fun x => by kernel_rfl
theorem irel_k : fnK Tryd.f19 irelS.ins irelS.outs = true := by kernel_rfl
theorem irel_sound : FnSound Tryd.prog tb 19 irelS := fn_ev mixed Tryd.func19 irel_k (.cons imod_sound .nil) rfl irel_eq

/-! ### bounds -/
def boundsF (x : Area × Cell) : Option (Cell × Cell) :=
  obnd (atF (x.fst.A, x.snd)) fun y =>
    obnd (atF (x.fst.B, x.snd)) fun y_1 =>
      some
        ({ Row := bif decide (y_1.Row < y.Row) then y_1.Row else y.Row, Col := bif decide (y_1.Col < y.Col) then y_1.Col else y.Col },
          { Row := bif decide (y.Row < y_1.Row) then y_1.Row else y.Row, Col := bif decide (y.Col < y_1.Col) then y_1.Col else y.Col })
def boundsS : FSpec tb := ⟨[(0, .val 42), (1, .val 25)], [(0, .val 25), (1, .val 25)], boundsF⟩
theorem bounds_eq : ∀ x, evFn Tryd.prog tb [(16, atS)] [] Tryd.f20 boundsS.ins boundsS.outs x = boundsS.f x := fun x => by kernel_rfl
theorem bounds_k : fnK Tryd.f20 boundsS.ins boundsS.outs = true := by kernel_rfl
theorem bounds_sound : FnSound Tryd.prog tb 20 boundsS := fn_ev mixed Tryd.func20 bounds_k (.cons at_sound .nil) rfl bounds_eq

/-! ### ibounds -/
def iboundsF (x : Area × Cell) : Option (Cell × Cell) :=
  obnd (iatF (x.fst.A, x.snd)) fun y =>
    obnd (iatF (x.fst.B, x.snd)) fun y_1 =>
      brn (decide (y_1.Row < y.Row)) (brn (decide (y_1.Col < y.Col)) (some (y_1, y)) (some ({ Row := y_1.Row, Col := y.Col }, { Row := y.Row, Col := y_1.Col })))
        (brn (decide (y_1.Col < y.Col)) (some ({ Row := y.Row, Col := y_1.Col }, { Row := y_1.Row, Col := y.Col })) (some (y, y_1)))
def iboundsS : FSpec tb := ⟨[(0, .val 48), (1, .val 34)], [(0, .val 34), (1, .val 34)], iboundsF⟩
theorem ibounds_eq : ∀ x, evFn Tryd.prog tb [(17, iatS)] [] Tryd.f21 iboundsS.ins iboundsS.outs x = iboundsS.f x := fun x => by kernel_rfl
theorem ibounds_k : fnK Tryd.f21 iboundsS.ins iboundsS.outs = true := by kernel_rfl
theorem ibounds_sound : FnSound Tryd.prog tb 21 iboundsS := fn_ev mixed Tryd.func21 ibounds_k (.cons iat_sound .nil) rfl ibounds_eq

/-! ### isize -/
def isizeF (x : Area × Cell) : Option (Int) :=
  obnd (iboundsF x) fun y =>
    some (IntKind.i64.wrap (IntKind.i64.wrap (IntKind.i64.wrap (y.snd.Row - y.fst.Row) + 1) * IntKind.i64.wrap (IntKind.i64.wrap (y.snd.Col - y.fst.Col) + 1)))
def isizeS : FSpec tb := ⟨[(0, .val 48), (1, .val 34)], [(0, .val 3)], isizeF⟩
theorem isize_eq : ∀ x, evFn Tryd.prog tb [(21, iboundsS)] [] Tryd.f35 isizeS.ins isizeS.outs x = isizeS.f x := fun x => by kernel_rfl
theorem isize_k : fnK Tryd.f35 isizeS.ins isizeS.outs = true := by kernel_rfl
theorem isize_sound : FnSound Tryd.prog tb 35 isizeS := fn_ev mixed Tryd.func35 isize_k (.cons ibounds_sound .nil) rfl isize_eq

/-! ### iletters -/
def ilettersF (x : Int) : Option (List UInt8) :=
  brn (decide (26 ≤ x))
    (obnd
      (cat [UInt8.ofNat (IntKind.u8.wrap (IntKind.i64.wrap (IntKind.i64.wrap (65 + IntKind.i64.wrap (x.tdiv 26)) - 1))).toNat]
        [UInt8.ofNat (IntKind.u8.wrap (IntKind.i64.wrap (65 + x.tmod 26))).toNat])
      fun z => some z)
    (some [UInt8.ofNat (IntKind.u8.wrap (IntKind.i64.wrap (65 + x.tmod 26))).toNat])
def ilettersS : FSpec tb := ⟨[(0, .val 3)], [(0, .val 9)], ilettersF⟩
theorem iletters_eq : ∀ x, evFn Tryd.prog tb [] [] Tryd.f37 ilettersS.ins ilettersS.outs x = ilettersS.f x := fun x => by kernel_rfl
theorem iletters_k : fnK Tryd.f37 ilettersS.ins ilettersS.outs = true := by kernel_rfl
theorem iletters_sound : FnSound Tryd.prog tb 37 ilettersS := fn_ev mixed Tryd.func37 iletters_k .nil rfl iletters_eq
end Go.Proofs.YtjbgpcpamdbjlaaDoor
