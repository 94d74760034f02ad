import Derived.Test.YtjkbhpokboolpaaGreatDoorGA
import Derived.Test.YtjkbhpokboolpaaGreatDoorSxR
namespace Go.Proofs.YtjkbhpokboolpaaGreatDoor.Sx
open Go Go.ChangeShapes Go.WideShapes
def ok_api_Key (x : api_Key) : Prop := (Wf .i64 x.Kind) ∧ (Wf .u8 x.Char)
set_option maxRecDepth 100000 in
theorem elt_api_Key : Elt Tryz.prog t_api_Key 80 ok_api_Key where
  cells := by kernel_rfl
  pos := by decide
  open_ := by
    intro H enc w base sp held fuel cs x hsp h
    obtain ⟨xs, n, _, _, hl, hx, hel⟩ := DataW.trod_struct (t := 80) (fs := Tryz.prog.fieldsOf 80) (by kernel_rfl) h
    have k0 : cs.length = 2 := hl.trans (by kernel_rfl)
    have hx : xs.length = 2 := hx.trans (by kernel_rfl)
    clear hl
    obtain ⟨u0, cs0, rfl, k1⟩ := list_of_len k0
    obtain ⟨u1, cs1, rfl, k2⟩ := list_of_len k1
    obtain rfl := list_of_len0 k2
    have h0 := hel 0 ((Tryz.prog.fieldsOf 80)[0]'(by decide +kernel)) (Array.getElem?_eq_getElem _)
    rw [List.getElem?_eq_getElem (by omega)] at h0
    have e0 : List.take (Tryz.prog.cellsOf ((Tryz.prog.fieldsOf 80)[0]'(by decide +kernel)).type) (List.drop ((Tryz.prog.fieldsOf 80)[0]'(by decide +kernel)).offset [u0, u1]) = [u0] := by kernel_rfl
    rw [e0] at h0
    obtain ⟨y0, r0, o0⟩ := Elt.open_ (elt_int (k := .i64) (t := 3) (P := Tryz.prog) (by kernel_rfl) (by kernel_rfl)) hsp h0
    have z0 := List.head_eq_of_cons_eq (rep_int r0)
    have h1 := hel 1 ((Tryz.prog.fieldsOf 80)[1]'(by decide +kernel)) (Array.getElem?_eq_getElem _)
    rw [List.getElem?_eq_getElem (by omega)] at h1
    have e1 : List.take (Tryz.prog.cellsOf ((Tryz.prog.fieldsOf 80)[1]'(by decide +kernel)).type) (List.drop ((Tryz.prog.fieldsOf 80)[1]'(by decide +kernel)).offset [u0, u1]) = [u1] := by kernel_rfl
    rw [e1] at h1
    obtain ⟨y1, r1, o1⟩ := Elt.open_ (elt_int (k := .u8) (t := 5) (P := Tryz.prog) (by kernel_rfl) (by kernel_rfl)) hsp h1
    have z1 := List.head_eq_of_cons_eq (rep_int r1)
    subst z0 z1
    exact ⟨⟨y0, y1⟩, rfl, o0, o1⟩
def ok_api_Wcc (x : api_Wcc) : Prop := (True) ∧ (True) ∧ (True)
set_option maxRecDepth 100000 in
theorem elt_api_Wcc : Elt Tryz.prog t_api_Wcc 23 ok_api_Wcc where
  cells := by kernel_rfl
  pos := by decide
  open_ := by
    intro H enc w base sp held fuel cs x hsp h
    obtain ⟨xs, n, _, _, hl, hx, hel⟩ := DataW.trod_struct (t := 23) (fs := Tryz.prog.fieldsOf 23) (by kernel_rfl) h
    have k0 : cs.length = 3 := hl.trans (by kernel_rfl)
    have hx : xs.length = 3 := hx.trans (by kernel_rfl)
    clear hl
    obtain ⟨u0, cs0, rfl, k1⟩ := list_of_len k0
    obtain ⟨u1, cs1, rfl, k2⟩ := list_of_len k1
    obtain ⟨u2, cs2, rfl, k3⟩ := list_of_len k2
    obtain rfl := list_of_len0 k3
    have h0 := hel 0 ((Tryz.prog.fieldsOf 23)[0]'(by decide +kernel)) (Array.getElem?_eq_getElem _)
    rw [List.getElem?_eq_getElem (by omega)] at h0
    have e0 : List.take (Tryz.prog.cellsOf ((Tryz.prog.fieldsOf 23)[0]'(by decide +kernel)).type) (List.drop ((Tryz.prog.fieldsOf 23)[0]'(by decide +kernel)).offset [u0, u1, u2]) = [u0] := by kernel_rfl
    rw [e0] at h0
    obtain ⟨y0, r0, o0⟩ := Elt.open_ (elt_bool (t := 4) (P := Tryz.prog) (by kernel_rfl) (by kernel_rfl)) hsp h0
    have z0 := List.head_eq_of_cons_eq (rep_bool r0)
    have h1 := hel 1 ((Tryz.prog.fieldsOf 23)[1]'(by decide +kernel)) (Array.getElem?_eq_getElem _)
    rw [List.getElem?_eq_getElem (by omega)] at h1
    have e1 : List.take (Tryz.prog.cellsOf ((Tryz.prog.fieldsOf 23)[1]'(by decide +kernel)).type) (List.drop ((Tryz.prog.fieldsOf 23)[1]'(by decide +kernel)).offset [u0, u1, u2]) = [u1] := by kernel_rfl
    rw [e1] at h1
    obtain ⟨y1, r1, o1⟩ := Elt.open_ (elt_bool (t := 4) (P := Tryz.prog) (by kernel_rfl) (by kernel_rfl)) hsp h1
    have z1 := List.head_eq_of_cons_eq (rep_bool r1)
    have h2 := hel 2 ((Tryz.prog.fieldsOf 23)[2]'(by decide +kernel)) (Array.getElem?_eq_getElem _)
    rw [List.getElem?_eq_getElem (by omega)] at h2
    have e2 : List.take (Tryz.prog.cellsOf ((Tryz.prog.fieldsOf 23)[2]'(by decide +kernel)).type) (List.drop ((Tryz.prog.fieldsOf 23)[2]'(by decide +kernel)).offset [u0, u1, u2]) = [u2] := by kernel_rfl
    rw [e2] at h2
    obtain ⟨y2, r2, o2⟩ := Elt.open_ (elt_bool (t := 4) (P := Tryz.prog) (by kernel_rfl) (by kernel_rfl)) hsp h2
    have z2 := List.head_eq_of_cons_eq (rep_bool r2)
    subst z0 z1 z2
    exact ⟨⟨y0, y1, y2⟩, rfl, o0, o1, o2⟩
def ok_api_Attr (x : api_Attr) : Prop := (True) ∧ (True) ∧ (Wf .i64 x.Show) ∧ (True)
set_option maxRecDepth 100000 in
theorem elt_api_Attr : Elt Tryz.prog t_api_Attr 87 ok_api_Attr where
  cells := by kernel_rfl
  pos := by decide
  open_ := by
    intro H enc w base sp held fuel cs x hsp h
    obtain ⟨xs, n, _, _, hl, hx, hel⟩ := DataW.trod_struct (t := 87) (fs := Tryz.prog.fieldsOf 87) (by kernel_rfl) h
    have k0 : cs.length = 4 := hl.trans (by kernel_rfl)
    have hx : xs.length = 4 := hx.trans (by kernel_rfl)
    clear hl
    obtain ⟨u0, cs0, rfl, k1⟩ := list_of_len k0
    obtain ⟨u1, cs1, rfl, k2⟩ := list_of_len k1
    obtain ⟨u2, cs2, rfl, k3⟩ := list_of_len k2
    obtain ⟨u3, cs3, rfl, k4⟩ := list_of_len k3
    obtain rfl := list_of_len0 k4
    have h0 := hel 0 ((Tryz.prog.fieldsOf 87)[0]'(by decide +kernel)) (Array.getElem?_eq_getElem _)
    rw [List.getElem?_eq_getElem (by omega)] at h0
    have e0 : List.take (Tryz.prog.cellsOf ((Tryz.prog.fieldsOf 87)[0]'(by decide +kernel)).type) (List.drop ((Tryz.prog.fieldsOf 87)[0]'(by decide +kernel)).offset [u0, u1, u2, u3]) = [u0] := by kernel_rfl
    rw [e0] at h0
    obtain ⟨y0, r0, o0⟩ := Elt.open_ (elt_bool (t := 4) (P := Tryz.prog) (by kernel_rfl) (by kernel_rfl)) hsp h0
    have z0 := List.head_eq_of_cons_eq (rep_bool r0)
    have h1 := hel 1 ((Tryz.prog.fieldsOf 87)[1]'(by decide +kernel)) (Array.getElem?_eq_getElem _)
    rw [List.getElem?_eq_getElem (by omega)] at h1
    have e1 : List.take (Tryz.prog.cellsOf ((Tryz.prog.fieldsOf 87)[1]'(by decide +kernel)).type) (List.drop ((Tryz.prog.fieldsOf 87)[1]'(by decide +kernel)).offset [u0, u1, u2, u3]) = [u1] := by kernel_rfl
    rw [e1] at h1
    obtain ⟨y1, r1, o1⟩ := Elt.open_ (elt_bool (t := 4) (P := Tryz.prog) (by kernel_rfl) (by kernel_rfl)) hsp h1
    have z1 := List.head_eq_of_cons_eq (rep_bool r1)
    have h2 := hel 2 ((Tryz.prog.fieldsOf 87)[2]'(by decide +kernel)) (Array.getElem?_eq_getElem _)
    rw [List.getElem?_eq_getElem (by omega)] at h2
    have e2 : List.take (Tryz.prog.cellsOf ((Tryz.prog.fieldsOf 87)[2]'(by decide +kernel)).type) (List.drop ((Tryz.prog.fieldsOf 87)[2]'(by decide +kernel)).offset [u0, u1, u2, u3]) = [u2] := by kernel_rfl
    rw [e2] at h2
    obtain ⟨y2, r2, o2⟩ := Elt.open_ (elt_int (k := .i64) (t := 3) (P := Tryz.prog) (by kernel_rfl) (by kernel_rfl)) hsp h2
    have z2 := List.head_eq_of_cons_eq (rep_int r2)
    have h3 := hel 3 ((Tryz.prog.fieldsOf 87)[3]'(by decide +kernel)) (Array.getElem?_eq_getElem _)
    rw [List.getElem?_eq_getElem (by omega)] at h3
    have e3 : List.take (Tryz.prog.cellsOf ((Tryz.prog.fieldsOf 87)[3]'(by decide +kernel)).type) (List.drop ((Tryz.prog.fieldsOf 87)[3]'(by decide +kernel)).offset [u0, u1, u2, u3]) = [u3] := by kernel_rfl
    rw [e3] at h3
    obtain ⟨y3, r3, o3⟩ := Elt.open_ (elt_bool (t := 4) (P := Tryz.prog) (by kernel_rfl) (by kernel_rfl)) hsp h3
    have z3 := List.head_eq_of_cons_eq (rep_bool r3)
    subst z0 z1 z2 z3
    exact ⟨⟨y0, y1, y2, y3⟩, rfl, o0, o1, o2, o3⟩
def ok_api_Order (x : api_Order) : Prop := (Wf .i64 x.Kind) ∧ ((∀ y ∈ x.Text, Wf .u8 y) ∧ x.Text.length ≤ maxLen) ∧ (ok_api_Attr x.Attr) ∧ (Wf .i64 x.Addr) ∧ (Wf .u8 x.Char)
set_option maxRecDepth 100000 in
theorem elt_api_Order : Elt Tryz.prog t_api_Order 133 ok_api_Order where
  cells := by kernel_rfl
  pos := by decide
  open_ := by
    intro H enc w base sp held fuel cs x hsp h
    obtain ⟨xs, n, _, _, hl, hx, hel⟩ := DataW.trod_struct (t := 133) (fs := Tryz.prog.fieldsOf 133) (by kernel_rfl) h
    have k0 : cs.length = 8 := hl.trans (by kernel_rfl)
    have hx : xs.length = 5 := hx.trans (by kernel_rfl)
    clear hl
    obtain ⟨u0, cs0, rfl, k1⟩ := list_of_len k0
    obtain ⟨u1, cs1, rfl, k2⟩ := list_of_len k1
    obtain ⟨u2, cs2, rfl, k3⟩ := list_of_len k2
    obtain ⟨u3, cs3, rfl, k4⟩ := list_of_len k3
    obtain ⟨u4, cs4, rfl, k5⟩ := list_of_len k4
    obtain ⟨u5, cs5, rfl, k6⟩ := list_of_len k5
    obtain ⟨u6, cs6, rfl, k7⟩ := list_of_len k6
    obtain ⟨u7, cs7, rfl, k8⟩ := list_of_len k7
    obtain rfl := list_of_len0 k8
    have h0 := hel 0 ((Tryz.prog.fieldsOf 133)[0]'(by decide +kernel)) (Array.getElem?_eq_getElem _)
    rw [List.getElem?_eq_getElem (by omega)] at h0
    have e0 : List.take (Tryz.prog.cellsOf ((Tryz.prog.fieldsOf 133)[0]'(by decide +kernel)).type) (List.drop ((Tryz.prog.fieldsOf 133)[0]'(by decide +kernel)).offset [u0, u1, u2, u3, u4, u5, u6, u7]) = [u0] := by kernel_rfl
    rw [e0] at h0
    obtain ⟨y0, r0, o0⟩ := Elt.open_ (elt_int (k := .i64) (t := 3) (P := Tryz.prog) (by kernel_rfl) (by kernel_rfl)) hsp h0
    have z0 := List.head_eq_of_cons_eq (rep_int r0)
    have h1 := hel 1 ((Tryz.prog.fieldsOf 133)[1]'(by decide +kernel)) (Array.getElem?_eq_getElem _)
    rw [List.getElem?_eq_getElem (by omega)] at h1
    have e1 : List.take (Tryz.prog.cellsOf ((Tryz.prog.fieldsOf 133)[1]'(by decide +kernel)).type) (List.drop ((Tryz.prog.fieldsOf 133)[1]'(by decide +kernel)).offset [u0, u1, u2, u3, u4, u5, u6, u7]) = [u1] := by kernel_rfl
    rw [e1] at h1
    obtain ⟨y1, r1, o1⟩ := Elt.open_ (elt_sl (t := 31) (elt_int (k := .u8) (t := 5) (P := Tryz.prog) (by kernel_rfl) (by kernel_rfl)) (by kernel_rfl) (by kernel_rfl)) hsp h1
    obtain ⟨a1, n1, c1, g1, q1⟩ := rep_sl r1
    have z1 := List.head_eq_of_cons_eq g1
    have h2 := hel 2 ((Tryz.prog.fieldsOf 133)[2]'(by decide +kernel)) (Array.getElem?_eq_getElem _)
    rw [List.getElem?_eq_getElem (by omega)] at h2
    have e2 : List.take (Tryz.prog.cellsOf ((Tryz.prog.fieldsOf 133)[2]'(by decide +kernel)).type) (List.drop ((Tryz.prog.fieldsOf 133)[2]'(by decide +kernel)).offset [u0, u1, u2, u3, u4, u5, u6, u7]) = [u2, u3, u4, u5] := by kernel_rfl
    rw [e2] at h2
    obtain ⟨y2, r2, o2⟩ := Elt.open_ elt_api_Attr hsp h2
    have g2 := t_api_Attr.open_ r2
    simp only [List.cons.injEq, and_true] at g2
    obtain ⟨z2_0, z2_1, z2_2, z2_3⟩ := g2
    have h3 := hel 3 ((Tryz.prog.fieldsOf 133)[3]'(by decide +kernel)) (Array.getElem?_eq_getElem _)
    rw [List.getElem?_eq_getElem (by omega)] at h3
    have e3 : List.take (Tryz.prog.cellsOf ((Tryz.prog.fieldsOf 133)[3]'(by decide +kernel)).type) (List.drop ((Tryz.prog.fieldsOf 133)[3]'(by decide +kernel)).offset [u0, u1, u2, u3, u4, u5, u6, u7]) = [u6] := by kernel_rfl
    rw [e3] at h3
    obtain ⟨y3, r3, o3⟩ := Elt.open_ (elt_int (k := .i64) (t := 3) (P := Tryz.prog) (by kernel_rfl) (by kernel_rfl)) hsp h3
    have z3 := List.head_eq_of_cons_eq (rep_int r3)
    have h4 := hel 4 ((Tryz.prog.fieldsOf 133)[4]'(by decide +kernel)) (Array.getElem?_eq_getElem _)
    rw [List.getElem?_eq_getElem (by omega)] at h4
    have e4 : List.take (Tryz.prog.cellsOf ((Tryz.prog.fieldsOf 133)[4]'(by decide +kernel)).type) (List.drop ((Tryz.prog.fieldsOf 133)[4]'(by decide +kernel)).offset [u0, u1, u2, u3, u4, u5, u6, u7]) = [u7] := by kernel_rfl
    rw [e4] at h4
    obtain ⟨y4, r4, o4⟩ := Elt.open_ (elt_int (k := .u8) (t := 5) (P := Tryz.prog) (by kernel_rfl) (by kernel_rfl)) hsp h4
    have z4 := List.head_eq_of_cons_eq (rep_int r4)
    subst z0 z1 z2_0 z2_1 z2_2 z2_3 z3 z4
    exact ⟨⟨y0, y1, y2, y3, y4⟩, ⟨a1, c1, n1, rfl, q1⟩, o0, ⟨o1.1, o1.2⟩, o2, o3, o4⟩
def ok_api_Out (x : api_Out) : Prop := (Wf .i64 x.Cmd) ∧ (ok_api_Wcc x.Wcc) ∧ ((∀ y ∈ x.Orders, ok_api_Order y) ∧ x.Orders.length ≤ maxLen)
set_option maxRecDepth 100000 in
theorem elt_api_Out : Elt Tryz.prog t_api_Out 26 ok_api_Out where
  cells := by kernel_rfl
  pos := by decide
  open_ := by
    intro H enc w base sp held fuel cs x hsp h
    obtain ⟨xs, n, _, _, hl, hx, hel⟩ := DataW.trod_struct (t := 26) (fs := Tryz.prog.fieldsOf 26) (by kernel_rfl) h
    have k0 : cs.length = 5 := hl.trans (by kernel_rfl)
    have hx : xs.length = 3 := hx.trans (by kernel_rfl)
    clear hl
    obtain ⟨u0, cs0, rfl, k1⟩ := list_of_len k0
    obtain ⟨u1, cs1, rfl, k2⟩ := list_of_len k1
    obtain ⟨u2, cs2, rfl, k3⟩ := list_of_len k2
    obtain ⟨u3, cs3, rfl, k4⟩ := list_of_len k3
    obtain ⟨u4, cs4, rfl, k5⟩ := list_of_len k4
    obtain rfl := list_of_len0 k5
    have h0 := hel 0 ((Tryz.prog.fieldsOf 26)[0]'(by decide +kernel)) (Array.getElem?_eq_getElem _)
    rw [List.getElem?_eq_getElem (by omega)] at h0
    have e0 : List.take (Tryz.prog.cellsOf ((Tryz.prog.fieldsOf 26)[0]'(by decide +kernel)).type) (List.drop ((Tryz.prog.fieldsOf 26)[0]'(by decide +kernel)).offset [u0, u1, u2, u3, u4]) = [u0] := by kernel_rfl
    rw [e0] at h0
    obtain ⟨y0, r0, o0⟩ := Elt.open_ (elt_int (k := .i64) (t := 3) (P := Tryz.prog) (by kernel_rfl) (by kernel_rfl)) hsp h0
    have z0 := List.head_eq_of_cons_eq (rep_int r0)
    have h1 := hel 1 ((Tryz.prog.fieldsOf 26)[1]'(by decide +kernel)) (Array.getElem?_eq_getElem _)
    rw [List.getElem?_eq_getElem (by omega)] at h1
    have e1 : List.take (Tryz.prog.cellsOf ((Tryz.prog.fieldsOf 26)[1]'(by decide +kernel)).type) (List.drop ((Tryz.prog.fieldsOf 26)[1]'(by decide +kernel)).offset [u0, u1, u2, u3, u4]) = [u1, u2, u3] := by kernel_rfl
    rw [e1] at h1
    obtain ⟨y1, r1, o1⟩ := Elt.open_ elt_api_Wcc hsp h1
    have g1 := t_api_Wcc.open_ r1
    simp only [List.cons.injEq, and_true] at g1
    obtain ⟨z1_0, z1_1, z1_2⟩ := g1
    have h2 := hel 2 ((Tryz.prog.fieldsOf 26)[2]'(by decide +kernel)) (Array.getElem?_eq_getElem _)
    rw [List.getElem?_eq_getElem (by omega)] at h2
    have e2 : List.take (Tryz.prog.cellsOf ((Tryz.prog.fieldsOf 26)[2]'(by decide +kernel)).type) (List.drop ((Tryz.prog.fieldsOf 26)[2]'(by decide +kernel)).offset [u0, u1, u2, u3, u4]) = [u4] := by kernel_rfl
    rw [e2] at h2
    obtain ⟨y2, r2, o2⟩ := Elt.open_ (elt_sl (t := 24) elt_api_Order (by kernel_rfl) (by kernel_rfl)) hsp h2
    obtain ⟨a2, n2, c2, g2, q2⟩ := rep_sl r2
    have z2 := List.head_eq_of_cons_eq g2
    subst z0 z1_0 z1_1 z1_2 z2
    exact ⟨⟨y0, y1, y2⟩, ⟨a2, c2, n2, rfl, q2⟩, o0, o1, ⟨o2.1, o2.2⟩⟩
def ok_shutterlaw25_Act (x : shutterlaw25_Act) : Prop := (Wf .i64 x.Do) ∧ (ok_api_Key x.Key) ∧ (ok_api_Out x.Out) ∧ (Wf .u8 x.Lost)
set_option maxRecDepth 100000 in
theorem elt_shutterlaw25_Act : Elt Tryz.prog t_shutterlaw25_Act 105 ok_shutterlaw25_Act where
  cells := by kernel_rfl
  pos := by decide
  open_ := by
    intro H enc w base sp held fuel cs x hsp h
    obtain ⟨xs, n, _, _, hl, hx, hel⟩ := DataW.trod_struct (t := 105) (fs := Tryz.prog.fieldsOf 105) (by kernel_rfl) h
    have k0 : cs.length = 9 := hl.trans (by kernel_rfl)
    have hx : xs.length = 4 := hx.trans (by kernel_rfl)
    clear hl
    obtain ⟨u0, cs0, rfl, k1⟩ := list_of_len k0
    obtain ⟨u1, cs1, rfl, k2⟩ := list_of_len k1
    obtain ⟨u2, cs2, rfl, k3⟩ := list_of_len k2
    obtain ⟨u3, cs3, rfl, k4⟩ := list_of_len k3
    obtain ⟨u4, cs4, rfl, k5⟩ := list_of_len k4
    obtain ⟨u5, cs5, rfl, k6⟩ := list_of_len k5
    obtain ⟨u6, cs6, rfl, k7⟩ := list_of_len k6
    obtain ⟨u7, cs7, rfl, k8⟩ := list_of_len k7
    obtain ⟨u8, cs8, rfl, k9⟩ := list_of_len k8
    obtain rfl := list_of_len0 k9
    have h0 := hel 0 ((Tryz.prog.fieldsOf 105)[0]'(by decide +kernel)) (Array.getElem?_eq_getElem _)
    rw [List.getElem?_eq_getElem (by omega)] at h0
    have e0 : List.take (Tryz.prog.cellsOf ((Tryz.prog.fieldsOf 105)[0]'(by decide +kernel)).type) (List.drop ((Tryz.prog.fieldsOf 105)[0]'(by decide +kernel)).offset [u0, u1, u2, u3, u4, u5, u6, u7, u8]) = [u0] := by kernel_rfl
    rw [e0] at h0
    obtain ⟨y0, r0, o0⟩ := Elt.open_ (elt_int (k := .i64) (t := 3) (P := Tryz.prog) (by kernel_rfl) (by kernel_rfl)) hsp h0
    have z0 := List.head_eq_of_cons_eq (rep_int r0)
    have h1 := hel 1 ((Tryz.prog.fieldsOf 105)[1]'(by decide +kernel)) (Array.getElem?_eq_getElem _)
    rw [List.getElem?_eq_getElem (by omega)] at h1
    have e1 : List.take (Tryz.prog.cellsOf ((Tryz.prog.fieldsOf 105)[1]'(by decide +kernel)).type) (List.drop ((Tryz.prog.fieldsOf 105)[1]'(by decide +kernel)).offset [u0, u1, u2, u3, u4, u5, u6, u7, u8]) = [u1, u2] := by kernel_rfl
    rw [e1] at h1
    obtain ⟨y1, r1, o1⟩ := Elt.open_ elt_api_Key hsp h1
    have g1 := t_api_Key.open_ r1
    simp only [List.cons.injEq, and_true] at g1
    obtain ⟨z1_0, z1_1⟩ := g1
    have h2 := hel 2 ((Tryz.prog.fieldsOf 105)[2]'(by decide +kernel)) (Array.getElem?_eq_getElem _)
    rw [List.getElem?_eq_getElem (by omega)] at h2
    have e2 : List.take (Tryz.prog.cellsOf ((Tryz.prog.fieldsOf 105)[2]'(by decide +kernel)).type) (List.drop ((Tryz.prog.fieldsOf 105)[2]'(by decide +kernel)).offset [u0, u1, u2, u3, u4, u5, u6, u7, u8]) = [u3, u4, u5, u6, u7] := by kernel_rfl
    rw [e2] at h2
    obtain ⟨y2, r2, o2⟩ := Elt.open_ elt_api_Out hsp h2
    obtain ⟨v2_0, v2_1, v2_2, g2, q2_0⟩ := t_api_Out.open_ r2
    simp only [List.cons.injEq, and_true] at g2
    obtain ⟨z2_0, z2_1, z2_2, z2_3, z2_4⟩ := g2
    have h3 := hel 3 ((Tryz.prog.fieldsOf 105)[3]'(by decide +kernel)) (Array.getElem?_eq_getElem _)
    rw [List.getElem?_eq_getElem (by omega)] at h3
    have e3 : List.take (Tryz.prog.cellsOf ((Tryz.prog.fieldsOf 105)[3]'(by decide +kernel)).type) (List.drop ((Tryz.prog.fieldsOf 105)[3]'(by decide +kernel)).offset [u0, u1, u2, u3, u4, u5, u6, u7, u8]) = [u8] := by kernel_rfl
    rw [e3] at h3
    obtain ⟨y3, r3, o3⟩ := Elt.open_ (elt_int (k := .u8) (t := 5) (P := Tryz.prog) (by kernel_rfl) (by kernel_rfl)) hsp h3
    have z3 := List.head_eq_of_cons_eq (rep_int r3)
    subst z0 z1_0 z1_1 z2_0 z2_1 z2_2 z2_3 z2_4 z3
    exact ⟨⟨y0, y1, y2, y3⟩, ⟨v2_0, v2_1, v2_2, rfl, q2_0⟩, o0, o1, o2, o3⟩
end Go.Proofs.YtjkbhpokboolpaaGreatDoor.Sx
