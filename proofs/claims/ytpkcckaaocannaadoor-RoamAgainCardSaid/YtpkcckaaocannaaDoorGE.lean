/- The structs among the arguments: opened. -/
import Derived.Test.YtpkcckaaocannaaDoorGA
import Derived.Test.YtpkcckaaocannaaDoorSxR
namespace Go.Proofs.YtpkcckaaocannaaDoor.Sx
open Go Go.ChangeShapes Go.WideShapes

def ok_shutterlaw21_Mail (x : shutterlaw21_Mail) : Prop := (Wf .u16 x.Seq) ∧ (x.From.size ≤ maxLen) ∧ (True)
set_option maxRecDepth 100000 in
theorem elt_shutterlaw21_Mail : Elt Tryd.prog t_shutterlaw21_Mail 67 ok_shutterlaw21_Mail where
  cells := by kernel_rfl
  pos := by decide
  open_ := by
    intro H enc w base sp held fuel cs x hsp h
    obtain ⟨xs, n, _, _, hl, hx, hel⟩ := DataW.trod_struct (t := 67) (fs := Tryd.prog.fieldsOf 67) (by kernel_rfl) h
    have k0 : cs.length = 3 := hl.trans (by kernel_rfl)
    have hx : xs.length = 3 := hx.trans (by kernel_rfl)
    clear hl
    obtain ⟨u0, cs0, rfl, k1⟩ := list_of_len k0
    obtain ⟨u1, cs1, rfl, k2⟩ := list_of_len k1
    obtain ⟨u2, cs2, rfl, k3⟩ := list_of_len k2
    obtain rfl := list_of_len0 k3
    have h0 := hel 0 ((Tryd.prog.fieldsOf 67)[0]'(by decide +kernel)) (Array.getElem?_eq_getElem _)
    rw [List.getElem?_eq_getElem (by omega)] at h0
    have e0 : List.take (Tryd.prog.cellsOf ((Tryd.prog.fieldsOf 67)[0]'(by decide +kernel)).type) (List.drop ((Tryd.prog.fieldsOf 67)[0]'(by decide +kernel)).offset [u0, u1, u2]) = [u0] := by kernel_rfl
    rw [e0] at h0
    obtain ⟨y0, r0, o0⟩ := Elt.open_ (elt_int (k := .u16) (t := 65) (P := Tryd.prog) (by kernel_rfl) (by kernel_rfl)) hsp h0
    have z0 := List.head_eq_of_cons_eq (rep_int r0)
    have h1 := hel 1 ((Tryd.prog.fieldsOf 67)[1]'(by decide +kernel)) (Array.getElem?_eq_getElem _)
    rw [List.getElem?_eq_getElem (by omega)] at h1
    have e1 : List.take (Tryd.prog.cellsOf ((Tryd.prog.fieldsOf 67)[1]'(by decide +kernel)).type) (List.drop ((Tryd.prog.fieldsOf 67)[1]'(by decide +kernel)).offset [u0, u1, u2]) = [u1] := by kernel_rfl
    rw [e1] at h1
    obtain ⟨y1, r1, o1⟩ := Elt.open_ (elt_str (t := 9) (P := Tryd.prog) (by kernel_rfl) (by kernel_rfl)) hsp h1
    have z1 := List.head_eq_of_cons_eq (rep_str r1)
    have h2 := hel 2 ((Tryd.prog.fieldsOf 67)[2]'(by decide +kernel)) (Array.getElem?_eq_getElem _)
    rw [List.getElem?_eq_getElem (by omega)] at h2
    have e2 : List.take (Tryd.prog.cellsOf ((Tryd.prog.fieldsOf 67)[2]'(by decide +kernel)).type) (List.drop ((Tryd.prog.fieldsOf 67)[2]'(by decide +kernel)).offset [u0, u1, u2]) = [u2] := by kernel_rfl
    rw [e2] at h2
    obtain ⟨y2, r2, o2⟩ := Elt.open_ (elt_bool (t := 4) (P := Tryd.prog) (by kernel_rfl) (by kernel_rfl)) hsp h2
    have z2 := List.head_eq_of_cons_eq (rep_bool r2)
    subst z0 z1 z2
    exact ⟨⟨y0, y1, y2⟩, rfl, o0, o1, o2⟩

end Go.Proofs.YtpkcckaaocannaaDoor.Sx
