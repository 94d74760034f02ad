/- The structs among the arguments: opened. -/
import Derived.Test.YtfbcjibdgicaoaaGreatDoorGA
import Derived.Test.YtfbcjibdgicaoaaGreatDoorSxR
namespace Go.Proofs.YtfbcjibdgicaoaaGreatDoor.Sx
open Go Go.ChangeShapes Go.WideShapes

def ok_api_Attr (x : api_Attr) : Prop := (True) ∧ (True) ∧ (Wf .i64 x.Show) ∧ (True)
set_option maxRecDepth 100000 in
theorem elt_api_Attr : Elt Tryz.prog t_api_Attr 55 ok_api_Attr where
  cells := by kernel_rfl
  pos := by decide
  open_ := by
    intro H enc w base sp held fuel cs x hsp h
    obtain ⟨xs, n, _, _, hl, hx, hel⟩ := DataW.trod_struct (t := 55) (fs := Tryz.prog.fieldsOf 55) (by kernel_rfl) h
    have k0 : cs.length = 4 := hl.trans (by kernel_rfl)
    have hx : xs.length = 4 := hx.trans (by kernel_rfl)
    clear hl
    obtain ⟨u0, cs0, rfl, k1⟩ := list_of_len k0
    obtain ⟨u1, cs1, rfl, k2⟩ := list_of_len k1
    obtain ⟨u2, cs2, rfl, k3⟩ := list_of_len k2
    obtain ⟨u3, cs3, rfl, k4⟩ := list_of_len k3
    obtain rfl := list_of_len0 k4
    have h0 := hel 0 ((Tryz.prog.fieldsOf 55)[0]'(by decide +kernel)) (Array.getElem?_eq_getElem _)
    rw [List.getElem?_eq_getElem (by omega)] at h0
    have e0 : List.take (Tryz.prog.cellsOf ((Tryz.prog.fieldsOf 55)[0]'(by decide +kernel)).type) (List.drop ((Tryz.prog.fieldsOf 55)[0]'(by decide +kernel)).offset [u0, u1, u2, u3]) = [u0] := by kernel_rfl
    rw [e0] at h0
    obtain ⟨y0, r0, o0⟩ := Elt.open_ (elt_bool (t := 4) (P := Tryz.prog) (by kernel_rfl) (by kernel_rfl)) hsp h0
    have z0 := List.head_eq_of_cons_eq (rep_bool r0)
    have h1 := hel 1 ((Tryz.prog.fieldsOf 55)[1]'(by decide +kernel)) (Array.getElem?_eq_getElem _)
    rw [List.getElem?_eq_getElem (by omega)] at h1
    have e1 : List.take (Tryz.prog.cellsOf ((Tryz.prog.fieldsOf 55)[1]'(by decide +kernel)).type) (List.drop ((Tryz.prog.fieldsOf 55)[1]'(by decide +kernel)).offset [u0, u1, u2, u3]) = [u1] := by kernel_rfl
    rw [e1] at h1
    obtain ⟨y1, r1, o1⟩ := Elt.open_ (elt_bool (t := 4) (P := Tryz.prog) (by kernel_rfl) (by kernel_rfl)) hsp h1
    have z1 := List.head_eq_of_cons_eq (rep_bool r1)
    have h2 := hel 2 ((Tryz.prog.fieldsOf 55)[2]'(by decide +kernel)) (Array.getElem?_eq_getElem _)
    rw [List.getElem?_eq_getElem (by omega)] at h2
    have e2 : List.take (Tryz.prog.cellsOf ((Tryz.prog.fieldsOf 55)[2]'(by decide +kernel)).type) (List.drop ((Tryz.prog.fieldsOf 55)[2]'(by decide +kernel)).offset [u0, u1, u2, u3]) = [u2] := by kernel_rfl
    rw [e2] at h2
    obtain ⟨y2, r2, o2⟩ := Elt.open_ (elt_int (k := .i64) (t := 3) (P := Tryz.prog) (by kernel_rfl) (by kernel_rfl)) hsp h2
    have z2 := List.head_eq_of_cons_eq (rep_int r2)
    have h3 := hel 3 ((Tryz.prog.fieldsOf 55)[3]'(by decide +kernel)) (Array.getElem?_eq_getElem _)
    rw [List.getElem?_eq_getElem (by omega)] at h3
    have e3 : List.take (Tryz.prog.cellsOf ((Tryz.prog.fieldsOf 55)[3]'(by decide +kernel)).type) (List.drop ((Tryz.prog.fieldsOf 55)[3]'(by decide +kernel)).offset [u0, u1, u2, u3]) = [u3] := by kernel_rfl
    rw [e3] at h3
    obtain ⟨y3, r3, o3⟩ := Elt.open_ (elt_bool (t := 4) (P := Tryz.prog) (by kernel_rfl) (by kernel_rfl)) hsp h3
    have z3 := List.head_eq_of_cons_eq (rep_bool r3)
    subst z0 z1 z2 z3
    exact ⟨⟨y0, y1, y2, y3⟩, rfl, o0, o1, o2, o3⟩

def ok_api_Cell (x : api_Cell) : Prop := (True) ∧ (ok_api_Attr x.Attr) ∧ (Wf .u8 x.Char)
set_option maxRecDepth 100000 in
theorem elt_api_Cell : Elt Tryz.prog t_api_Cell 57 ok_api_Cell where
  cells := by kernel_rfl
  pos := by decide
  open_ := by
    intro H enc w base sp held fuel cs x hsp h
    obtain ⟨xs, n, _, _, hl, hx, hel⟩ := DataW.trod_struct (t := 57) (fs := Tryz.prog.fieldsOf 57) (by kernel_rfl) h
    have k0 : cs.length = 6 := hl.trans (by kernel_rfl)
    have hx : xs.length = 3 := hx.trans (by kernel_rfl)
    clear hl
    obtain ⟨u0, cs0, rfl, k1⟩ := list_of_len k0
    obtain ⟨u1, cs1, rfl, k2⟩ := list_of_len k1
    obtain ⟨u2, cs2, rfl, k3⟩ := list_of_len k2
    obtain ⟨u3, cs3, rfl, k4⟩ := list_of_len k3
    obtain ⟨u4, cs4, rfl, k5⟩ := list_of_len k4
    obtain ⟨u5, cs5, rfl, k6⟩ := list_of_len k5
    obtain rfl := list_of_len0 k6
    have h0 := hel 0 ((Tryz.prog.fieldsOf 57)[0]'(by decide +kernel)) (Array.getElem?_eq_getElem _)
    rw [List.getElem?_eq_getElem (by omega)] at h0
    have e0 : List.take (Tryz.prog.cellsOf ((Tryz.prog.fieldsOf 57)[0]'(by decide +kernel)).type) (List.drop ((Tryz.prog.fieldsOf 57)[0]'(by decide +kernel)).offset [u0, u1, u2, u3, u4, u5]) = [u0] := by kernel_rfl
    rw [e0] at h0
    obtain ⟨y0, r0, o0⟩ := Elt.open_ (elt_bool (t := 4) (P := Tryz.prog) (by kernel_rfl) (by kernel_rfl)) hsp h0
    have z0 := List.head_eq_of_cons_eq (rep_bool r0)
    have h1 := hel 1 ((Tryz.prog.fieldsOf 57)[1]'(by decide +kernel)) (Array.getElem?_eq_getElem _)
    rw [List.getElem?_eq_getElem (by omega)] at h1
    have e1 : List.take (Tryz.prog.cellsOf ((Tryz.prog.fieldsOf 57)[1]'(by decide +kernel)).type) (List.drop ((Tryz.prog.fieldsOf 57)[1]'(by decide +kernel)).offset [u0, u1, u2, u3, u4, u5]) = [u1, u2, u3, u4] := by kernel_rfl
    rw [e1] at h1
    obtain ⟨y1, r1, o1⟩ := Elt.open_ elt_api_Attr hsp h1
    have g1 := t_api_Attr.open_ r1
    simp only [List.cons.injEq, and_true] at g1
    obtain ⟨z1_0, z1_1, z1_2, z1_3⟩ := g1
    have h2 := hel 2 ((Tryz.prog.fieldsOf 57)[2]'(by decide +kernel)) (Array.getElem?_eq_getElem _)
    rw [List.getElem?_eq_getElem (by omega)] at h2
    have e2 : List.take (Tryz.prog.cellsOf ((Tryz.prog.fieldsOf 57)[2]'(by decide +kernel)).type) (List.drop ((Tryz.prog.fieldsOf 57)[2]'(by decide +kernel)).offset [u0, u1, u2, u3, u4, u5]) = [u5] := by kernel_rfl
    rw [e2] at h2
    obtain ⟨y2, r2, o2⟩ := Elt.open_ (elt_int (k := .u8) (t := 5) (P := Tryz.prog) (by kernel_rfl) (by kernel_rfl)) hsp h2
    have z2 := List.head_eq_of_cons_eq (rep_int r2)
    subst z0 z1_0 z1_1 z1_2 z1_3 z2
    exact ⟨⟨y0, y1, y2⟩, rfl, o0, o1, o2⟩

def ok_api_Screen (x : api_Screen) : Prop := (Wf .i64 x.Rows) ∧ (Wf .i64 x.Cols) ∧ ((∀ y ∈ x.Cells, ok_api_Cell y) ∧ x.Cells.length ≤ maxLen) ∧ (Wf .i64 x.Cursor) ∧ (True) ∧ (True)
set_option maxRecDepth 100000 in
theorem elt_api_Screen : Elt Tryz.prog t_api_Screen 24 ok_api_Screen where
  cells := by kernel_rfl
  pos := by decide
  open_ := by
    intro H enc w base sp held fuel cs x hsp h
    obtain ⟨xs, n, _, _, hl, hx, hel⟩ := DataW.trod_struct (t := 24) (fs := Tryz.prog.fieldsOf 24) (by kernel_rfl) h
    have k0 : cs.length = 6 := hl.trans (by kernel_rfl)
    have hx : xs.length = 6 := hx.trans (by kernel_rfl)
    clear hl
    obtain ⟨u0, cs0, rfl, k1⟩ := list_of_len k0
    obtain ⟨u1, cs1, rfl, k2⟩ := list_of_len k1
    obtain ⟨u2, cs2, rfl, k3⟩ := list_of_len k2
    obtain ⟨u3, cs3, rfl, k4⟩ := list_of_len k3
    obtain ⟨u4, cs4, rfl, k5⟩ := list_of_len k4
    obtain ⟨u5, cs5, rfl, k6⟩ := list_of_len k5
    obtain rfl := list_of_len0 k6
    have h0 := hel 0 ((Tryz.prog.fieldsOf 24)[0]'(by decide +kernel)) (Array.getElem?_eq_getElem _)
    rw [List.getElem?_eq_getElem (by omega)] at h0
    have e0 : List.take (Tryz.prog.cellsOf ((Tryz.prog.fieldsOf 24)[0]'(by decide +kernel)).type) (List.drop ((Tryz.prog.fieldsOf 24)[0]'(by decide +kernel)).offset [u0, u1, u2, u3, u4, u5]) = [u0] := by kernel_rfl
    rw [e0] at h0
    obtain ⟨y0, r0, o0⟩ := Elt.open_ (elt_int (k := .i64) (t := 3) (P := Tryz.prog) (by kernel_rfl) (by kernel_rfl)) hsp h0
    have z0 := List.head_eq_of_cons_eq (rep_int r0)
    have h1 := hel 1 ((Tryz.prog.fieldsOf 24)[1]'(by decide +kernel)) (Array.getElem?_eq_getElem _)
    rw [List.getElem?_eq_getElem (by omega)] at h1
    have e1 : List.take (Tryz.prog.cellsOf ((Tryz.prog.fieldsOf 24)[1]'(by decide +kernel)).type) (List.drop ((Tryz.prog.fieldsOf 24)[1]'(by decide +kernel)).offset [u0, u1, u2, u3, u4, u5]) = [u1] := by kernel_rfl
    rw [e1] at h1
    obtain ⟨y1, r1, o1⟩ := Elt.open_ (elt_int (k := .i64) (t := 3) (P := Tryz.prog) (by kernel_rfl) (by kernel_rfl)) hsp h1
    have z1 := List.head_eq_of_cons_eq (rep_int r1)
    have h2 := hel 2 ((Tryz.prog.fieldsOf 24)[2]'(by decide +kernel)) (Array.getElem?_eq_getElem _)
    rw [List.getElem?_eq_getElem (by omega)] at h2
    have e2 : List.take (Tryz.prog.cellsOf ((Tryz.prog.fieldsOf 24)[2]'(by decide +kernel)).type) (List.drop ((Tryz.prog.fieldsOf 24)[2]'(by decide +kernel)).offset [u0, u1, u2, u3, u4, u5]) = [u2] := by kernel_rfl
    rw [e2] at h2
    obtain ⟨y2, r2, o2⟩ := Elt.open_ (elt_sl (t := 22) elt_api_Cell (by kernel_rfl) (by kernel_rfl)) hsp h2
    obtain ⟨a2, n2, c2, g2, q2⟩ := rep_sl r2
    have z2 := List.head_eq_of_cons_eq g2
    have h3 := hel 3 ((Tryz.prog.fieldsOf 24)[3]'(by decide +kernel)) (Array.getElem?_eq_getElem _)
    rw [List.getElem?_eq_getElem (by omega)] at h3
    have e3 : List.take (Tryz.prog.cellsOf ((Tryz.prog.fieldsOf 24)[3]'(by decide +kernel)).type) (List.drop ((Tryz.prog.fieldsOf 24)[3]'(by decide +kernel)).offset [u0, u1, u2, u3, u4, u5]) = [u3] := by kernel_rfl
    rw [e3] at h3
    obtain ⟨y3, r3, o3⟩ := Elt.open_ (elt_int (k := .i64) (t := 3) (P := Tryz.prog) (by kernel_rfl) (by kernel_rfl)) hsp h3
    have z3 := List.head_eq_of_cons_eq (rep_int r3)
    have h4 := hel 4 ((Tryz.prog.fieldsOf 24)[4]'(by decide +kernel)) (Array.getElem?_eq_getElem _)
    rw [List.getElem?_eq_getElem (by omega)] at h4
    have e4 : List.take (Tryz.prog.cellsOf ((Tryz.prog.fieldsOf 24)[4]'(by decide +kernel)).type) (List.drop ((Tryz.prog.fieldsOf 24)[4]'(by decide +kernel)).offset [u0, u1, u2, u3, u4, u5]) = [u4] := by kernel_rfl
    rw [e4] at h4
    obtain ⟨y4, r4, o4⟩ := Elt.open_ (elt_bool (t := 4) (P := Tryz.prog) (by kernel_rfl) (by kernel_rfl)) hsp h4
    have z4 := List.head_eq_of_cons_eq (rep_bool r4)
    have h5 := hel 5 ((Tryz.prog.fieldsOf 24)[5]'(by decide +kernel)) (Array.getElem?_eq_getElem _)
    rw [List.getElem?_eq_getElem (by omega)] at h5
    have e5 : List.take (Tryz.prog.cellsOf ((Tryz.prog.fieldsOf 24)[5]'(by decide +kernel)).type) (List.drop ((Tryz.prog.fieldsOf 24)[5]'(by decide +kernel)).offset [u0, u1, u2, u3, u4, u5]) = [u5] := by kernel_rfl
    rw [e5] at h5
    obtain ⟨y5, r5, o5⟩ := Elt.open_ (elt_bool (t := 4) (P := Tryz.prog) (by kernel_rfl) (by kernel_rfl)) hsp h5
    have z5 := List.head_eq_of_cons_eq (rep_bool r5)
    subst z0 z1 z2 z3 z4 z5
    exact ⟨⟨y0, y1, y2, y3, y4, y5⟩, ⟨a2, c2, n2, rfl, q2⟩, o0, o1, ⟨o2.1, o2.2⟩, o3, o4, o5⟩

end Go.Proofs.YtfbcjibdgicaoaaGreatDoor.Sx
