/-
  The document's Body: the walk.
-/
import Derived.Test.YtbllpjphlanchaaRefDig
import Derived.Test.YtbllpjphlanchaaPrint10
namespace Go.Proofs.Ytbllpjphlanchaa
open Go.RowKit Go.Mix Go.WideMaps

set_option maxRecDepth 100000 in
set_option maxHeartbeats 4000000 in
theorem refBody_any {w : World} {l : List Ent} {a : Option Addr} {cap : Nat} (hg : RsAt encE 22 w a cap l) (hlen : l.length ≤ 10000) (hnm : ∀ p ∈ l, p.name.length ≤ 10000) :
    Calls Try.prog 17 #[.slice a l.length cap] w fun e w' => ∃ v, e = .returned v ∧ Buf w.heap.size w w' v (bodyL l) := by
  obtain ⟨n, hn⟩ : ∃ n, n = l.length := ⟨_, rfl⟩
  have HN := Lib.hid (And.intro hn (And.intro hnm hlen))
  have HG := Lib.hid hg
  rw [← hn] at hlen ⊢
  clear hn hg hnm
  have HB0 := Lib.hid (Buf.nil (B := w.heap.size) (w0 := w) (w := w) (Below.refl _ _) (Nat.le_refl _))
  go_enter Try.func17, Try.ntmps17
  go_wp2_with fail
  go_loopw [3, 4] (fun s3 s4 wr => ∃ i : Nat, s4 = .int .i64 (i : Int) ∧ i ≤ n ∧ Buf w.heap.size w wr s3 (bodyL (l.take i))) (fun _ s4 _ => n - (intOf s4).toNat)
  case atStart => exact ⟨0, rfl, Nat.zero_le _, HB0.out⟩
  case round =>
    obtain ⟨i, rfl, hi, hrow⟩ := hrel
    have HROW := Lib.hid hrow
    by_cases hin : i < n
    · have t1 : (i : Int) < (n : Int) := by omega
      have hil : i < l.length := by rw [← HN.out.1]; exact hin
      obtain ⟨b, q, IX, R, -⟩ := HG.out.at tyF (i : Int) i rfl hil
      rw [← HN.out.1] at IX
      have hpn : l[i]!.name.length ≤ 10000 := HN.out.2.1 _ (by rw [getElem!_pos l i hil]; exact List.getElem_mem hil)
      have hsucc := bodyL_succ hil
      have hbl : (bodyL (l.take i)).length ≤ 300000000 := by
        have h1 := bodyL_len 10000 (l.take i) fun p hp => HN.out.2.1 p (List.mem_of_mem_take hp)
        have h2 : (l.take i).length ≤ 10000 := by rw [List.length_take]; have := HN.out.2.2; omega
        have := Nat.mul_le_mul_right (10000 + 28) h2
        omega
      obtain ⟨p, hp⟩ : ∃ p, p = l[i]! := ⟨_, rfl⟩
      rw [← hp] at hpn hsucc R
      have HPN := Lib.hid (And.intro hpn (And.intro hsucc hbl))
      obtain ⟨f0, -, -⟩ := ent_fields R
      have HR := Lib.hid R
      have CD := fun W => refDigits_any p.mode W
      have hd6 := digs_len p.mode
      obtain ⟨D, hD⟩ : ∃ D, D = digs p.mode := ⟨_, rfl⟩
      rw [← hD] at CD hd6
      have HD := Lib.hid (And.intro hD hd6)
      have c0 : wr.cell? ⟨b, q, none⟩ = some (.int .i64 p.mode) := (ent_fields (rangeR_below HR.out hrow.2.1)).1
      have hT : bodyE p = digs p.mode ++ [32] ++ p.name ++ [0] ++ p.id.1 := rfl
      have HT := Lib.hid hT
      have HPI := Lib.hid p.id.2
      generalize p.mode = md at *
      clear hD hd6 hpn hsucc hbl hp R f0 hrow hT hil
      go_wp2_with fail
      refine (CD _).mono ?_
      rintro e w1 ⟨rfl, hw1⟩
      have H1 := Lib.hid (HROW.out.later hw1)
      clear hw1 CD c0
      go_wp2_with (first
        | (refine wpList_append_text rfl (.tmp 11) (.tmp 17) rfl _ _ rfl H1.out D rfl (by have := HPN.out.2.2; have := HD.out.2; omega) ?_; intro v2 w2 hb2 hg2; have H2 := Lib.hid hb2; clear hb2 hg2)
        | (refine wpList_append_one rfl (.tmp 19) (.tmp 20) rfl _ _ rfl H2.out 32 32 rfl rfl (by have := HPN.out.2.2; have := HD.out.2; simp; omega) ?_; intro v3 w3 hb3 hg3; have H3 := Lib.hid hb3; have c1 := (ent_fields (rangeR_below HR.out hb3.2.1)).2.1; clear hb3 hg3)
        | (refine wpList_append_text rfl (.tmp 22) (.tmp 27) rfl _ _ rfl H3.out p.name rfl (by have := HPN.out.2.2; have := HPN.out.1; have := HD.out.2; simp; omega) ?_; intro v4 w4 hb4 hg4; have H4 := Lib.hid hb4; clear hb4 hg4 c1)
        | (refine wpList_append_one rfl (.tmp 29) (.tmp 30) rfl _ _ rfl H4.out 0 0 rfl rfl (by have := HPN.out.2.2; have := HPN.out.1; have := HD.out.2; simp; omega) ?_; intro v5 w5 hb5 hg5; have H5 := Lib.hid hb5; clear hb5 hg5)
        | (refine wpList_append_buf rfl (.tmp 32) (.tmp 37) rfl _ _ rfl H5.out (some ⟨b, q + 2, none⟩) 20 p.id.1 (by rw [HPI.out]; rfl) (bs_id (ent_fields (rangeR_below HR.out H5.out.2.1)).2.2) (by simp) (by have := HPN.out.2.2; have := HPN.out.1; have := HD.out.2; have := HPI.out; simp; omega) ?_; intro v6 w6 hb6 hg6; have H6 := Lib.hid hb6; clear hb6 hg6))
      go_roundw
      case rel =>
        refine ⟨i + 1, by go_num, by omega, ?_⟩
        rw [HPN.out.2.1, HT.out, ← HD.out.1]
        have := H6.out
        simpa [List.append_assoc] using this
      case measure => simp [intOf]; omega
    · obtain rfl : i = n := by omega
      have t1 : ¬ (i : Int) < (i : Int) := by omega
      go_wp2_with fail
      go_ret
      refine ⟨_, rfl, ?_⟩
      have := HROW.out
      rw [HN.out.1, List.take_length] at this
      exact this
end Go.Proofs.Ytbllpjphlanchaa
