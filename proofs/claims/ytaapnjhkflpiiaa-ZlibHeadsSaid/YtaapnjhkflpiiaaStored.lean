/-
  The walk of deflate.Stored.
-/
import Derived.Test.YtaapnjhkflpiiaaSz
import Derived.Test.YtaapnjhkflpiiaaStoredPure
namespace Go.Proofs.Ytaapnjhkflpiiaa
open Go.RowKit Go.Mix

theorem head_last (n : Nat) (hn : n ≤ 65535) :
    (#[Value.int .u8 1, .int .u8 ((n : Int) % 256), .int .u8 ((n : Int) / 256), .int .u8 (bits .xor .u8 IntKind.u8.max ((n : Int) % 256)), .int .u8 (bits .xor .u8 IntKind.u8.max ((n : Int) / 256))] : Array Value).toList = bcells (storedHead n 1) := by
  rw [not_u8 ((n : Int) % 256) (n % 256) (by omega) (by omega), not_u8 ((n : Int) / 256) (n / 256) (by omega) (by omega)]
  simp [bcells, storedHead]
  omega

theorem head_full : (#[Value.int .u8 0, .int .u8 255, .int .u8 255, .int .u8 (bits .xor .u8 IntKind.u8.max 255), .int .u8 (bits .xor .u8 IntKind.u8.max 255)] : Array Value).toList = bcells (storedHead 65535 0) := by
  rw [not_u8 255 255 rfl (by decide)]
  rfl

set_option maxRecDepth 100000 in
set_option maxHeartbeats 1000000 in
theorem stored_sl (a : Option Addr) (cap : Nat) (b : List UInt8) (w : World) (hs : Sl w a cap b) (hl : b.length ≤ 1000000) :
    Calls Try.prog 21 #[.slice a b.length cap] w fun e w' => ∃ v, e = .returned v ∧ Buf w.heap.size w w' v (storedOf b) := by
  go_enter Try.func21, Try.ntmps21
  go_wp2_with fail
  go_loopw [0, 3] (fun s v wr => ∃ (a2 : Option Addr) (cap2 : Nat) (l2 o : List UInt8) (f : Nat), s = .slice a2 l2.length cap2 ∧ Sl w a2 cap2 l2 ∧ l2.length ≤ 1000000 ∧ l2.length < f ∧ o ++ storedF f l2 = storedOf b ∧ o.length + 2 * l2.length ≤ 10000000 ∧ Buf w.heap.size w wr v o) (fun s _ _ => match s with | .slice _ n _ => n | _ => 0)
  case atStart => exact ⟨a, cap, b, [], b.length + 1, rfl, hs, hl, by omega, rfl, by simp; omega, .nil (Below.refl _ _) (Nat.le_refl _)⟩
  case round =>
    obtain ⟨a2, cap2, l2, o, f, rfl, hs2, hl2, hf, hgo, hr, hbuf⟩ := hrel
    obtain ⟨f, rfl⟩ : ∃ g, f = g + 1 := ⟨f - 1, by omega⟩
    simp only [storedF] at hgo
    have hle2 := hs2.le
    have hmx2 := hs2.max
    by_cases hlast : l2.length ≤ 65535
    · rw [show min l2.length 65535 = l2.length from by omega, if_pos rfl] at hgo
      obtain ⟨l3, hl3, hl3n, hs3, hsl3⟩ := hs2.to l2.length l2.length rfl (Nat.le_refl _)
      obtain ⟨a4, l4, cap4, -, -, hsl4⟩ := hs2.from l2.length l2.length rfl (Nat.le_refl _)
      have hmin : min (l2.length : Int) 65535 = (l2.length : Int) := by omega
      rw [← hl3, ← List.append_assoc] at hgo
      have HG := Lib.hid hgo
      have HL := Lib.hid hl3n
      clear hgo hl3 hl3n
      go_wp2_with (first
        | (at_builtin; refine wpList_append_new rfl (.tmp 13) (.tmp 27) rfl u3 o rfl hbuf _ (storedHead l2.length 1) (head_last l2.length hlast) 5 5 rfl rfl (by simp [storedHead]; omega) ?_; intro v5 w5 hb5 hgr5)
        | (at_builtin; refine wpList_append_buf rfl (.tmp 29) (.tmp 32) rfl v5 _ rfl hb5 a2 cap2 l3 rfl (hs3.bs.below hb5.2.1) hs3.non (by have := HL.out; simp [storedHead]; omega) ?_; intro v6 w6 hb6 hgr6))
      go_ret
      exact ⟨v6, rfl, by rw [← HG.out]; exact hb6⟩
    · rw [show min l2.length 65535 = 65535 from by omega, if_neg (by omega)] at hgo
      obtain ⟨l3, hl3, hl3n, hs3, hsl3⟩ := hs2.to 65535 65535 rfl (by omega)
      obtain ⟨a4, l4, cap4, hl4, hs4, hsl4⟩ := hs2.from 65535 65535 rfl (by omega)
      have hl4n : l4.length + 65535 = l2.length := by rw [hl4, List.length_drop]; omega
      have hmin : min (l2.length : Int) 65535 = 65535 := by omega
      have ht : ((65535 : Int) == (l2.length : Int)) = false := by simp; omega
      rw [← hl3, ← hl4] at hgo
      have HG := Lib.hid (show o ++ storedHead 65535 0 ++ l3 ++ storedF f l4 = storedOf b by rw [← hgo]; simp)
      have HL := Lib.hid (And.intro hl3n hl4n)
      clear hgo hl3 hl3n hl4 hl4n
      go_wp2_with (first
        | (at_builtin; refine wpList_append_new rfl (.tmp 13) (.tmp 27) rfl u3 o rfl hbuf _ (storedHead 65535 0) head_full 5 5 rfl rfl (by simp [storedHead]; omega) ?_; intro v5 w5 hb5 hgr5)
        | (at_builtin; refine wpList_append_buf rfl (.tmp 29) (.tmp 32) rfl v5 _ rfl hb5 a2 cap2 l3 rfl (hs3.bs.below hb5.2.1) hs3.non (by have := HL.out; simp [storedHead]; omega) ?_; intro v6 w6 hb6 hgr6))
      go_roundw
      case rel => exact ⟨a4, cap4, l4, _, f, rfl, hs4, by have := HL.out; omega, by have := HL.out; omega, HG.out, by have := HL.out; simp [storedHead]; omega, hb6⟩
      case measure => have := HL.out; show l4.length < l2.length; omega
end Go.Proofs.Ytaapnjhkflpiiaa
