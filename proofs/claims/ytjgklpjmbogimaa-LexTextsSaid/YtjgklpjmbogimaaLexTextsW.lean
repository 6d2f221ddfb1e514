/-
  The walk of the law LexTexts: any tokens are written as the document says.
-/
import Derived.Test.YtjgklpjmbogimaaLexK
import Derived.Test.YtjgklpjmbogimaaTokOpen
namespace Go.Proofs.Ytjgklpjmbogimaa
open Go.RowKit
attribute [local go_sem] ex_take ex_drop ba_get

theorem text_bound : ∀ ts : List Lx.Tok, (∀ t ∈ ts, t.text.length ≤ 1000) → (Lx.text ts).length ≤ ts.length * 1001
  | [], _ => by simp [Lx.text]
  | t :: ts, h => by
    have h1 := text_cons_le t ts
    have h2 := text_bound ts (fun u hu => h u (by simp [hu]))
    have h3 := h t (by simp)
    simp only [List.length_cons]
    omega
set_option maxHeartbeats 4000000 in
theorem lexTexts_walk (w : World) (A : Option Addr) (c : Nat) (ts : List Lx.Tok) (hw : TokAt w A ts ∧ ts.length ≤ maxLen) :
    Calls Try.prog 6 #[.slice A ts.length c] w fun e w' => e = .returned (.bool true) ∧ Below w.heap.size w w' := by
  obtain ⟨hA, hn⟩ := hw
  have HA := Lib.hid hA
  clear hA
  unfold maxLen at hn
  by_cases hbig : 500 < ts.length
  · go_enter Try.func6, Try.ntmps6
    go_wp2_with fail
    refine (known_any _).mono ?_
    rintro e w1 ⟨rfl, hb1⟩
    go_wp2_with fail
    go_ret
    exact ⟨rfl, hb1⟩
  · go_enter Try.func6, Try.ntmps6
    go_wp2_with fail
    go_loopw [3] (fun i wr => ∃ k : Nat, k ≤ ts.length ∧ i = .int .i64 k ∧ wr = w ∧ Hid (∀ j (hj : j < ts.length), j < k → (ts[j]'hj).text.length ≤ 1000)) (fun i _ => ts.length - (intOf i).toNat)
    case atStart => exact ⟨0, Nat.zero_le _, rfl, rfl, fun j hj h => absurd h (Nat.not_lt_zero _)⟩
    case round =>
      obtain ⟨k, hk, rfl, rfl, hall⟩ := hrel
      by_cases hlt : k < ts.length
      · obtain ⟨b, off, rfl, c0, c1, c2, c3⟩ := HA.out k hlt
        by_cases hlong : 1000 < (ts[k]'hlt).text.length
        · go_wp2_with fail
          refine (known_any _).mono ?_
          rintro e w1 ⟨rfl, hb1⟩
          go_wp2_with fail
          go_ret
          exact ⟨rfl, hb1⟩
        · have HLG := Lib.hid hlong
          go_wp2_with fail
          go_roundw
          case rel =>
            refine ⟨k + 1, by omega, by go_num, by first | trivial | rfl, fun j hj hjk => ?_⟩
            rcases Nat.lt_or_ge j k with h1 | h1
            · exact hall.out j hj h1
            · obtain rfl : j = k := by omega
              have := HLG.out
              omega
          case measure => simp [intOf]; omega
      · obtain rfl : k = ts.length := by omega
        have htb := text_bound ts (fun t ht => by
          obtain ⟨j, hj, rfl⟩ := List.getElem_of_mem ht
          exact hall.out j hj hj)
        clear hall
        go_wp2_with fail
        refine (lextext ts A c _ HA.out (by omega) (by omega)).mono ?_
        rintro e w1 ⟨rfl, hb1⟩
        have HA1 := Lib.hid (HA.out.below hb1 (.inl (Nat.le_refl _)))
        go_wp2_with fail
        refine (reftext ts A c _ HA1.out (by omega) (by omega)).mono ?_
        rintro e w2 ⟨rfl, rfl⟩
        go_wp2_with fail
        refine (known_any _).mono ?_
        rintro e w3 ⟨rfl, hb3⟩
        go_wp2_with fail
        go_ret
        exact ⟨rfl, hb1.trans (hb3.mono hb1.size)⟩
end Go.Proofs.Ytjgklpjmbogimaa
