/-
  What must come of the fixed calls of the layer mac: its law's known().
-/
import Derived.Test.YtofjfpnkdcpngaaMacD
import Derived.Lib.SmallJoins
namespace Go.Proofs.Ytofjfpnkdcpngaa
open Go.RowKit Mem

theorem macopen_short (v : Value) (n c : Nat) (A : Option Addr) (w : World) (hn : n < 32) :
    Calls Try.prog 16 #[v, .slice A n c] w fun e w' => e = .returned (.tuple #[.slice none 0 0, .int .i64 2]) ∧ w = w' := by
  go_enter Try.func16, Try.ntmps16
  go_wp2_with fail
  go_ret2
  exact ⟨rfl, rfl⟩
def kKey : List UInt8 := [107, 101, 121]
def kMsg : List UInt8 := [84, 104, 101, 32, 113, 117, 105, 99, 107, 32, 98, 114, 111, 119, 110, 32, 102, 111, 120, 32, 106, 117, 109, 112, 115, 32, 111, 118, 101, 114, 32, 116, 104, 101, 32, 108, 97, 122, 121, 32, 100, 111, 103]
def kHex : List UInt8 := [102, 55, 98, 99, 56, 51, 102, 52, 51, 48, 53, 51, 56, 52, 50, 52, 98, 49, 51, 50, 57, 56, 101, 54, 97, 97, 54, 102, 98, 49, 52, 51, 101, 102, 52, 100, 53, 57, 97, 49, 52, 57, 52, 54, 49, 55, 53, 57, 57, 55, 52, 55, 57, 100, 98, 99, 50, 100, 49, 97, 51, 99, 100, 56]
theorem k_hex : hexL (tagOf kKey kMsg) = kHex := by decide +kernel
theorem mactag_known (w : World) (A A' : Option Addr) (hA : Src w A 3 3 (bcells kKey) 1) (hA' : Src w A' 43 43 (bcells kMsg) 1) :
    Calls Try.prog 13 #[.slice A 3 3, .slice A' 43 43] w fun e w' => e = .returned (.agg (bcells (tagOf kKey kMsg)).toArray) ∧ Below w.heap.size w w' :=
  mactag kKey kMsg A A' 3 43 w hA (Nat.le_refl _) (by decide) (by decide) hA' (by decide)
theorem hex_known (w : World) : Calls Try.prog 24 #[.agg (bcells (tagOf kKey kMsg)).toArray] w fun e w' => e = .returned (.string ⟨kHex.toArray⟩) ∧ Below w.heap.size w w' := by
  have h := shahex (tagOf kKey kMsg) w (tagOf_len _ _)
  rw [k_hex] at h
  exact h
set_option maxRecDepth 100000 in
set_option maxHeartbeats 4000000 in
theorem known_any (w : World) : Calls Try.prog 9 #[] w fun e w' => e = .returned (.bool true) ∧ Below w.heap.size w w' := by
  have kc := fun (w : World) (C : Array Value) (n c g : Nat) (hg : g = w.heap.size) => Joins.run_convert_bytes_const_at (P := Try.prog) w 22 5 C n c g hg Try.underlying22 Try.underlying5
  obtain ⟨Z, hZl, hmk0⟩ := make_bytes 31 0 (by omega)
  have hmk : ∀ wx : World, (Instr.makeSlice 22 (.int .i64 31) (.int .i64 31)).run Try.prog wx = .ok (.slice (some ⟨wx.heap.size, 0, none⟩) 31 31) (wx.alloc (.cells Z.toArray 5)) := hmk0
  clear hZl hmk0
  go_enter Try.func9, Try.ntmps9
  go_wp2_with fail
  refine (macopen_short _ 31 31 _ _ (by decide)).mono ?_
  rintro e w' ⟨rfl, rfl⟩
  go_wp2_with fail
  refine (mactag_known _ (some ⟨w.heap.size + 1 + 1, 0, none⟩) (some ⟨w.heap.size + 1 + 1 + 1, 0, none⟩) ?s1 ?s2).mono ?_
  case s2 => exact src_new _ 5 (43, 44) kMsg 43 _ rfl (by simp)
  case s1 => exact (src_new _ 5 (3, 4) kKey 3 _ rfl (by simp)).below ((Below.refl _ _).alloc (Nat.le_refl _) _) (Nat.le_refl _)
  rintro e w2 ⟨rfl, hb2⟩
  have HB2 : Hid (Below w.heap.size w w2) := (((((Below.refl _ _).alloc (Nat.le_refl _) _).alloc (by simp) _).alloc (by simp; omega) _).alloc (by simp; omega) _).trans (hb2.mono (by simp; omega))
  clear hb2 kc hmk
  go_wp2_with fail
  refine (hex_known _).mono ?_
  rintro e w3 ⟨rfl, hb3⟩
  have HB3 := Lib.hid (HB2.out.trans (hb3.mono HB2.out.size))
  clear hb3
  have hab : (⟨kHex.toArray⟩ : ByteArray) = ⟨#[102, 55, 98, 99, 56, 51, 102, 52, 51, 48, 53, 51, 56, 52, 50, 52, 98, 49, 51, 50, 57, 56, 101, 54, 97, 97, 54, 102, 98, 49, 52, 51, 101, 102, 52, 100, 53, 57, 97, 49, 52, 57, 52, 54, 49, 55, 53, 57, 57, 55, 52, 55, 57, 100, 98, 99, 50, 100, 49, 97, 51, 99, 100, 56]⟩ := rfl
  rw [hab]
  clear hab
  go_wp2_with fail
  go_ret
  exact ⟨rfl, HB3.out⟩
end Go.Proofs.Ytofjfpnkdcpngaa
