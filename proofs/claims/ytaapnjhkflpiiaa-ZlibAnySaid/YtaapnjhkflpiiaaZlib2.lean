/-
  The walks of zlib.Wrap and zlib.Open.
-/
import Derived.Test.YtaapnjhkflpiiaaZlib1
namespace Go.Proofs.Ytaapnjhkflpiiaa
open Go.RowKit Go.Mix

theorem Row.lit {S : Nat → Prop} {e : TypeId} {w0 w : World} {g n : Nat} {C : Array Value} {xs : List Value} (hF : FrameS S w0 w) (hg : w.heap[g]? = some (.cells C e (0, 0))) (hC : C.toList = xs) (hn : xs.length = n) (hm : n ≤ maxLen) (hS : ¬ S g) :
    Row S e w0 w (.slice (some ⟨g, 0, none⟩) n n) xs := by
  refine ⟨⟨by omega, .inr ⟨g, n, C, by rw [hn], Nat.zero_le _, hg, by omega, hm, ?_, ?_⟩⟩, fun k hk => ?_, hF⟩
  · rw [← hn, ← hC]; simp
  · rw [hC, List.take_of_length_le (by omega)]
  · injection hk with hk
    subst hk
    exact hS

theorem four_sl {w : World} {A n : Nat} {t : TypeId} {fr : Nat × Nat} (hn : n < 4294967296) (h : w.heap[A]? = some (.cells #[.int .u8 ((n : Int) / 16777216), .int .u8 ((n : Int) / 65536 % 256), .int .u8 ((n : Int) / 256 % 256), .int .u8 ((n : Int) % 256)] t fr)) :
    Sl w (some ⟨A, 0, none⟩) 4 (fourOf n) := by
  have hc := fourC_cells n hn
  have e1 : ((n / 16777216 : Nat) : Int) = (n : Int) / 16777216 := by omega
  have e2 : ((n / 65536 % 256 : Nat) : Int) = (n : Int) / 65536 % 256 := by omega
  have e3 : ((n / 256 % 256 : Nat) : Int) = (n : Int) / 256 % 256 := by omega
  have e4 : ((n % 256 : Nat) : Int) = (n : Int) % 256 := by omega
  unfold fourC at hc
  rw [e1, e2, e3, e4] at hc
  refine ⟨.block h ?_, by show 4 ≤ 4; omega, by decide, by simp⟩
  rw [hc, List.take_of_length_le (by rw [bcells_length]; exact Nat.le_refl _)]
  rfl

theorem c_head : (#[Value.int .u8 120, .int .u8 156] : Array Value).toList = bcells [120, 156] := rfl

set_option maxRecDepth 100000 in
set_option maxHeartbeats 1000000 in
theorem wrap_any {w : World} {a : Option Addr} {cap : Nat} {b : List UInt8} (hs : Sl w a cap b) (hl : b.length ≤ 1000000) :
    Calls Try.prog 32 #[.slice a b.length cap] w fun e w' => ∃ v, e = .returned v ∧ RowB (· < w.heap.size) w w' v (wrapOf b) := by
  have hlt := adler_lt 1 b (by decide)
  have C1 := Lib.hid (zadler_any hs hl)
  have HW := Lib.hid (show wrapOf b = [120, 156] ++ rawPackOf b ++ fourOf (adler 1 b) from rfl)
  have hpl : (rawPackOf b).length ≤ 2000000 := by
    have h1 : (rawPackOf b).length ≤ (storedOf b).length := by
      unfold rawPackOf; split
      · assumption
      · exact Nat.le_refl _
    have h2 := storedOf_len b
    omega
  have C2 := Lib.hid (fun (W : World) (h : Sl W a cap b) => rawpack_ret h hl)
  generalize wrapOf b = R at *
  generalize rawPackOf b = q at *
  generalize adler 1 b = n at *
  go_enter Try.func32, Try.ntmps32
  go_wp2_with fail
  refine Calls.mono C1.out ?_
  rintro e w1 ⟨rfl, rfl⟩
  go_wp2_with fail
  refine (four_any n _ rfl hlt _).mono ?_
  rintro e w2 ⟨rfl, g2⟩
  have hs2 := hs.below g2
  go_wp2_with fail
  have hsz := g2.size
  have e1 : ((n / 16777216 : Nat) : Int) = (n : Int) / 16777216 := by omega
  have e2 : ((n / 65536 % 256 : Nat) : Int) = (n : Int) / 65536 % 256 := by omega
  have e3 : ((n / 256 % 256 : Nat) : Int) = (n : Int) / 256 % 256 := by omega
  have e4 : ((n % 256 : Nat) : Int) = (n : Int) % 256 := by omega
  have hA : ((w2.alloc (.cells (fourC n) 44)).alloc (.cells #[.int .u8 120, .int .u8 156] 5)).heap[w2.heap.size]? = some (.cells (fourC n) 44 (0, 0)) :=
    (((Below.refl (w2.alloc (.cells (fourC n) 44)).heap.size _).alloc (Nat.le_refl _) _).block w2.heap.size (by simp)).trans (heap_alloc_last _ _ _ rfl)
  have hB : ((w2.alloc (.cells (fourC n) 44)).alloc (.cells #[.int .u8 120, .int .u8 156] 5)).heap[w2.heap.size + 1]? = some (.cells #[.int .u8 120, .int .u8 156] 5 (0, 0)) := heap_alloc_last _ _ _ (by simp)
  have g3 : Below w2.heap.size w2 ((w2.alloc (.cells (fourC n) 44)).alloc (.cells #[.int .u8 120, .int .u8 156] 5)) := ((Below.refl _ _).alloc (Nat.le_refl _) _).alloc (by simp) _
  unfold fourC at hA hB g3
  rw [e1, e2, e3, e4] at hA hB g3
  clear e1 e2 e3 e4
  generalize (w2.alloc (.cells #[.int .u8 ((n : Int) / 16777216), .int .u8 ((n : Int) / 65536 % 256), .int .u8 ((n : Int) / 256 % 256), .int .u8 ((n : Int) % 256)] 44)).alloc (.cells #[.int .u8 120, .int .u8 156] 5) = w3 at *
  have hF3 : FrameS (· < w.heap.size) w w3 := (FrameS.refl (fun k hk => hk)).below (g2.trans (g3.mono hsz))
  have hr3 : RowB (· < w.heap.size) w w3 (.slice (some ⟨w2.heap.size + 1, 0, none⟩) 2 2) [120, 156] := Row.lit hF3 hB c_head (by simp [bcells]) (by decide) (by show ¬ _ < _; omega)
  have hs3 := hs2.below g3
  have hlA := lt_of_block hA
  refine Calls.mono (C2.out _ hs3) ?_
  rintro e w4 ⟨a4, c4, rfl, h4, g4⟩
  have hr4 := hr3.later g4
  have hA4 := (g4.block _ hlA).trans hA
  have hneA : some w2.heap.size ≠ (Value.slice (some ⟨w2.heap.size + 1, 0, none⟩) 2 2).ownBlock := by simp [Value.ownBlock]
  have hlA4 := lt_of_block hA4
  clear hs2 hs3 hr3 hB g2 g3 g4 hA hlA hF3
  go_wp2_with (first
    | (at_builtin; refine wpList_append_b rfl (.tmp 8) (.tmp 10) rfl _ [120, 156] rfl hr4 a4 c4 q rfl h4 (by show 2 + _ ≤ _; omega) ?_; intro v5 w5 hb5 hgr5; have hA5 := (hgr5.block _ hlA4 hneA).trans hA4)
    | (at_builtin; refine wpList_append_b rfl (.tmp 12) (.tmp 13) rfl v5 _ rfl hb5 (some ⟨w2.heap.size, 0, none⟩) 4 (fourOf n) rfl (four_sl hlt hA5) (by rw [List.length_append]; show 2 + _ + 4 ≤ _; omega) ?_; intro v6 w6 hb6 hgr6))
  go_ret
  exact ⟨v6, rfl, by rw [HW.out]; exact hb6⟩

end Go.Proofs.Ytaapnjhkflpiiaa
