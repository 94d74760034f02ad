import Derived.Test.YtjkbhpokboolpaaGreatDoorGA
import Derived.Test.YtjkbhpokboolpaaGreatDoorSxR
namespace Go.Proofs.YtjkbhpokboolpaaGreatDoor.Sx
open Go Go.ChangeShapes Go.WideShapes
def ok_api_Key (x : api_Key) : Prop := (Wf .i64 x.Kind) ∧ (Wf .u8 x.Char)
set_option maxRecDepth 100000 in
theorem elt_api_Key : Elt Tryz.prog t_api_Key 80 ok_api_Key where
  cells := by kernel_rfl
  pos := by decide
  open_ := by
    intro H enc w base sp held fuel cs x hsp h
    obtain ⟨xs, n, _, _, hl, hx, hel⟩ := DataW.trod_struct (t := 80) (fs := Tryz.prog.fieldsOf 80) (by kernel_rfl) h
    have k0 : cs.length = 2 := hl.trans (by kernel_rfl)
    have hx : xs.length = 2 := hx.trans (by kernel_rfl)
    clear hl
    obtain ⟨u0, cs0, rfl, k1⟩ := list_of_len k0
    obtain ⟨u1, cs1, rfl, k2⟩ := list_of_len k1
    obtain rfl := list_of_len0 k2
    have h0 := hel 0 ((Tryz.prog.fieldsOf 80)[0]'(by decide +kernel)) (Array.getElem?_eq_getElem _)
    rw [List.getElem?_eq_getElem (by omega)] at h0
    have e0 : List.take (Tryz.prog.cellsOf ((Tryz.prog.fieldsOf 80)[0]'(by decide +kernel)).type) (List.drop ((Tryz.prog.fieldsOf 80)[0]'(by decide +kernel)).offset [u0, u1]) = [u0] := by kernel_rfl
    rw [e0] at h0
    obtain ⟨y0, r0, o0⟩ := Elt.open_ (elt_int (k := .i64) (t := 3) (P := Tryz.prog) (by kernel_rfl) (by kernel_rfl)) hsp h0
    have z0 := List.head_eq_of_cons_eq (rep_int r0)
    have h1 := hel 1 ((Tryz.prog.fieldsOf 80)[1]'(by decide +kernel)) (Array.getElem?_eq_getElem _)
    rw [List.getElem?_eq_getElem (by omega)] at h1
    have e1 : List.take (Tryz.prog.cellsOf ((Tryz.prog.fieldsOf 80)[1]'(by decide +kernel)).type) (List.drop ((Tryz.prog.fieldsOf 80)[1]'(by decide +kernel)).offset [u0, u1]) = [u1] := by kernel_rfl
    rw [e1] at h1
    obtain ⟨y1, r1, o1⟩ := Elt.open_ (elt_int (k := .u8) (t := 5) (P := Tryz.prog) (by kernel_rfl) (by kernel_rfl)) hsp h1
    have z1 := List.head_eq_of_cons_eq (rep_int r1)
    subst z0 z1
    exact ⟨⟨y0, y1⟩, rfl, o0, o1⟩
end Go.Proofs.YtjkbhpokboolpaaGreatDoor.Sx
