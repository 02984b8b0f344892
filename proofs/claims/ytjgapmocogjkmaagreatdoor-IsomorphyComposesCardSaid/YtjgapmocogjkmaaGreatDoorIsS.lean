/- strconv.Atoi and strconv.ParseInt at numerals, as functions on data. -/
import Derived.Test.YtjgapmocogjkmaaGreatDoorPnH
import Derived.Test.YtjgapmocogjkmaaGreatDoorPmP
import Derived.Test.YtjgapmocogjkmaaGreatDoorPnR
import Derived.Test.YtjgapmocogjkmaaGreatDoorShelf
import Derived.Lib.SmallJoins
set_option linter.unusedSimpArgs false
set_option linter.unusedVariables false
namespace Go.PM
open Go Go.RowKit Go.Proofs
set_option maxRecDepth 100000

theorem below_ext {w w' : World} {G : Nat → Prop} (hG : ∀ b, G b → b < w.heap.size) (h : Below w.heap.size w w') (hd : w.drawn ≤ w'.drawn) : Ext (Fresh w) w G nomap w' G nomap :=
  { good := fun b hb => ⟨hb, h.block b (hG b hb)⟩
    map := fun _ _ h => (by cases h)
    len := fun _ _ h => (by cases h)
    room := fun b n ⟨c, t, fr, h1, h2⟩ => ⟨c, t, fr, by rw [h.block b (heap_lt h1)]; exact h1, h2⟩
    os := h.os
    tape := h.tape
    output := h.output
    size := h.size
    drawn := hd
    old := fun b hb _ => h.block b hb
    new := fun b hb => .inl hb }
theorem bytes_ext {w : World} {G : Nat → Prop} (hG : ∀ b, G b → b < w.heap.size) (e : TypeId) (t : ByteArray) : Ext (Fresh w) w G nomap (Lib.bytesWorld w e t) G nomap :=
  below_ext hG (Joins.below_bytesWorld _ w e t (Nat.le_refl _)) (by
    show w.drawn ≤ ((w.drew.alloc _).freeze _ 1).drawn
    simp [World.freeze, World.alloc, World.drew, -World.alloc_eq, -World.drew_eq])
theorem pair_vr {w : World} {G : Nat → Prop} (n : Int) : VR w G nomap (.tuple [.lit (.int .i64 n), .lit .nilIface]) (.tuple #[.int .i64 n, .nilIface]) := by
  rw [VR]
  refine ⟨_, rfl, ?_⟩
  show VRs w G nomap _ [.int .i64 n, .nilIface]
  rw [VRs]
  refine ⟨_, _, rfl, by rw [VR], ?_⟩
  rw [VRs]
  exact ⟨_, _, rfl, by rw [VR], by rw [VRs]⟩
theorem atoi_pure {s : ByteArray} {n : Int} (hl : s.size ≤ 18) (h : Lib.atoi s.data.toList = some n) : PureCall Tryz.prog 154 [.lit (.string s)] (.tuple [.lit (.int .i64 n), .lit .nilIface]) := by
  intro w G vs hG hv
  rw [VRs] at hv
  obtain ⟨v, us, hvs, h1, h2⟩ := hv
  rw [VRs] at h2
  rw [VR] at h1
  subst h2; subst h1
  have hvs : vs = #[.string s] := Array.ext' (by simpa using hvs)
  subst hvs
  refine ⟨enters Tryz.func154 (by kernel_rfl) (by kernel_rfl) _ _, (Tryz.strconv_Atoi s n hl h w).mono ?_⟩
  rintro e w' ⟨rfl, t, rfl⟩
  have he := bytes_ext hG 5 t
  exact ⟨_, G, rfl, he, fun b hb => Nat.lt_of_lt_of_le (hG b hb) he.size, pair_vr n⟩
theorem parse_pure {s : ByteArray} {n : Int} (hl : s.size ≤ 1000) (h : Lib.parseIntB 64 s.data.toList = .ok n) : PureCall Tryz.prog 143 [.lit (.string s), .lit (.int .i64 10), .lit (.int .i64 64)] (.tuple [.lit (.int .i64 n), .lit .nilIface]) := by
  intro w G vs hG hv
  rw [VRs] at hv
  obtain ⟨v, us, hvs, h1, h2⟩ := hv
  rw [VRs] at h2
  obtain ⟨v2, us2, hvs2, h3, h4⟩ := h2
  rw [VRs] at h4
  obtain ⟨v3, us3, hvs3, h5, h6⟩ := h4
  rw [VRs] at h6
  rw [VR] at h1 h3 h5
  subst h6; subst h5; subst h3; subst h1; subst hvs3; subst hvs2
  have hvs : vs = #[.string s, .int .i64 10, .int .i64 64] := Array.ext' (by simpa using hvs)
  subst hvs
  refine ⟨enters Tryz.func143 (by kernel_rfl) (by kernel_rfl) _ _, (Tryz.strconv_ParseInt_10_at64_ok s (by omega) n h w).mono ?_⟩
  rintro e w' ⟨rfl, hw⟩
  rcases hw with rfl | ⟨t, rfl⟩
  · exact ⟨_, G, rfl, Ext.refl _ _ _ _, hG, pair_vr n⟩
  · have he := bytes_ext hG 5 t
    exact ⟨_, G, rfl, he, fun b hb => Nat.lt_of_lt_of_le (hG b hb) he.size, pair_vr n⟩
/-- The library's functions on numerals. -/
def primS (g : FuncId) (args : List PV) : Option PV := match args with
  | [.lit (.string s)] => bif Nat.beq g 154 && Nat.ble s.size 18 then (match Lib.atoi s.data.toList with
    | some n => some (.tuple [.lit (.int .i64 n), .lit .nilIface])
    | none => none) else none
  | [.lit (.string s), .lit (.int .i64 b), .lit (.int .i64 c)] => bif Nat.beq g 143 && Nat.ble s.size 1000 && eqI b 10 && eqI c 64 then (match Lib.parseIntB 64 s.data.toList with
    | .ok n => some (.tuple [.lit (.int .i64 n), .lit .nilIface])
    | _ => none) else none
  | _ => none
theorem primS_ok : ∀ g args r, primS g args = some r → PureCall Tryz.prog g args r := by
  intro g args r h
  unfold primS at h
  split at h
  · rename_i s
    obtain ⟨hb, h4⟩ := condSome h
    clear h
    rw [Bool.and_eq_true] at hb
    have h1 := Nat.eq_of_beq_eq_true hb.1
    have h2 := Nat.le_of_ble_eq_true hb.2
    subst h1
    split at h4
    · rename_i n hn
      cases h4
      exact atoi_pure h2 hn
    · cases h4
  · rename_i s b c
    obtain ⟨hb, h4⟩ := condSome h
    clear h
    simp only [Bool.and_eq_true, eqI_eq, decide_eq_true_eq] at hb
    obtain ⟨⟨⟨hb1, hb2⟩, rfl⟩, rfl⟩ := hb
    have h1 := Nat.eq_of_beq_eq_true hb1
    have h2 := Nat.le_of_ble_eq_true hb2
    subst h1
    split at h4
    · rename_i n hn
      cases h4
      exact parse_pure h2 hn
    · cases h4
  · cases h
end Go.PM
