/-
  Layer 3: a journal and the reference's, call by call: contracts for any state.
-/
import Derived.Test.YtephlppgappcnaaJournalRefC
import Derived.Test.YtephlppgappcnaaJournalAllP
set_option linter.unusedVariables false
set_option linter.unusedSimpArgs false
set_option maxRecDepth 4000
namespace Go.Proofs.Ytephlppgappcnaa
open Go.Sl Go.RowKit Go.Pack Go.Journal

structure JS where
  st : DSt
  n : Int
  sick : Bool
/-- a record added to a journal, whatever its state -/
def addT (nm : ByteArray) (rec : List UInt8) (s : JS) : JS × Int :=
  if s.sick then (s, 20) else (⟨(addP nm rec s.st).1, if (addP nm rec s.st).2 = 0 then s.n + 1 else s.n, decide ((addP nm rec s.st).2 = 20)⟩, (addP nm rec s.st).2)
theorem rdisk_mono {w0 w : World} {r N : Nat} {st : DSt} {A : List HProp} (h : Own w0 (rdisk r N st :: A) w) : Own w0 (rdisk r (N + 1) st :: A) w := by
  obtain ⟨⟨base, c, l⟩, ⟨hr, hc⟩, hO⟩ := rdisk_open h
  exact rdisk_mk hr ⟨hc.1, Nat.le_succ_of_le hc.2⟩ hO
theorem addP_deeds (nm : ByteArray) (rec : List UInt8) (st : DSt) : st.deeds ≤ (addP nm rec st).1.deeds ∧ (addP nm rec st).1.deeds ≤ st.deeds + 2 := by
  have h1 := appendS_deeds nm (frameB rec) st
  unfold addP
  split
  · have h2 : (appendS nm (frameB rec) st).1.deeds ≤ (syncS nm (appendS nm (frameB rec) st).1).1.deeds ∧ (syncS nm (appendS nm (frameB rec) st).1).1.deeds ≤ (appendS nm (frameB rec) st).1.deeds + 1 := by
      unfold syncS
      split
      · dsimp only; omega
      · split
        · dsimp only; omega
        · rw [deedS_deeds]; omega
    omega
  · omega
theorem addT_bounds (nm : ByteArray) (rec : List UInt8) (s : JS) : s.st.deeds ≤ (addT nm rec s).1.st.deeds ∧ (addT nm rec s).1.st.deeds ≤ s.st.deeds + 2 ∧ s.n ≤ (addT nm rec s).1.n ∧ (addT nm rec s).1.n ≤ s.n + 1 := by
  unfold addT
  split
  · dsimp only; omega
  · have := addP_deeds nm rec s.st
    dsimp only
    split <;> omega
theorem journal_add_T {w0 : World} {A : List HProp} {j d k c : Nat} {nm : ByteArray} {base : Option Addr} {rec : List UInt8} {s : JS} (hR : RdC w0 A base (u8s rec)) (hk : k = rec.length) (hl : rec.length ≤ 1048576) (hs : nm.size ≤ 140737488351232) (hd : 0 ≤ s.st.deeds ∧ s.st.deeds + 2 ≤ 9223372036854775807) (hn : 0 ≤ s.n ∧ s.n + 1 ≤ 9223372036854775807) :
    Fun Try.prog w0 12 [.pointer (some ⟨j, 0, none⟩), .slice base k c] (cel j (jcells d nm s.n s.sick) 70 :: pdisk d s.st :: A)
      (Ret w0 (fun _ : Unit => True) (fun _ => .int .i64 (addT nm rec s).2) (fun _ => cel j (jcells d nm (addT nm rec s).1.n (addT nm rec s).1.sick) 70 :: pdisk d (addT nm rec s).1.st :: A)) := by
  obtain ⟨st, n, sick⟩ := s
  cases sick with
  | true => exact journal_add_sick
  | false => exact journal_add_ok hR hk hl hs hd hn
theorem ref_jadd_T {w0 : World} {A : List HProp} {w r N k c : Nat} {nm : ByteArray} {base : Option Addr} {rec : List UInt8} {s : JS} (hN : N + 1 ≤ 1099511627776) (hR : RdC w0 A base (u8s rec)) (hk : k = rec.length) (hl : rec.length ≤ 1048576) (hd : 0 ≤ s.st.deeds ∧ s.st.deeds + 2 ≤ 9223372036854775807) (hn : 0 ≤ s.n ∧ s.n + 1 ≤ 9223372036854775807) :
    Fun Try.prog w0 21 [.pointer (some ⟨w, 0, none⟩), .slice base k c] (cel w (wcells r nm s.n s.sick) 55 :: rdisk r N s.st :: A)
      (Ret w0 (fun _ : Unit => True) (fun _ => .int .i64 (addT nm rec s).2) (fun _ => cel w (wcells r nm (addT nm rec s).1.n (addT nm rec s).1.sick) 55 :: rdisk r (N + 1) (addT nm rec s).1.st :: A)) := by
  obtain ⟨st, n, sick⟩ := s
  cases sick with
  | true => exact ref_jadd_sick.mono fun e w ⟨i, hi, he, hO⟩ => ⟨i, hi, he, (rdisk_mono hO.pk1).pk1⟩
  | false => exact ref_jadd_ok hN hR hk hl hd hn
theorem journal_len_at {w0 : World} {A : List HProp} {j d : Nat} {nm : ByteArray} {n : Int} {sick : Bool} [hc : CelAt A j (jcells d nm n sick) 70] : Fun Try.prog w0 16 [.pointer (some ⟨j, 0, none⟩)] A (Ret w0 (fun _ : Unit => True) (fun _ => .int .i64 n) (fun _ => A)) := by
  refine Fun.enter Try.func16 rfl Try.ntmps16 rfl ?_
  refine WC.seq <| WC.region <| sv (vaI rfl) <| WL.nil <| WX.thenN <| WC.seq <| WC.seq <| WC.region <| sv (vmP rfl) <| sv (vpeqF Try.underlying27 rfl rfl) <| WL.nil <| WX.thenN <| ?_
  refine WC.ff rfl ?_
  exact WC.skip <| WX.thenN <| WC.seq <| WC.region <| sv (vmP rfl) <| sv (vnil rfl) <| sv (vfld fl70f2 rfl) <| sv (vldc pl3 rfl) <| sv (vaI rfl) <| WL.nil <| WX.thenN <| WC.ret <| WX.ret1 rfl (()) (trivial) rfl (fun _ h => h)
theorem openS_deeds (nm : ByteArray) (st : DSt) : st.deeds ≤ (openS nm st).1.deeds ∧ (openS nm st).1.deeds ≤ st.deeds + 1 := by
  have hc : ∀ n, st.deeds ≤ (cutS nm n st).1.deeds ∧ (cutS nm n st).1.deeds ≤ st.deeds + 1 := fun n => by
    unfold cutS
    split
    · dsimp only; omega
    · split
      · dsimp only; omega
      · split
        · dsimp only; omega
        · rw [deedS_deeds]; omega
  unfold openS
  split
  · dsimp only; omega
  · split
    · dsimp only; omega
    · split
      · dsimp only; omega
      · exact hc _
/-- when a journal is not opened, the power is off or fails -/
theorem openS_err {nm : ByteArray} {st st' : DSt} {e : Int} (hn : okName nm) (h : openS nm st = (st', e)) (he : e ≠ 0) : e = 20 ∧ (st.off = true → st' = st) := by
  unfold openS at h
  by_cases ho : st.off = true
  · rw [if_pos ho] at h; cases h; exact ⟨rfl, fun _ => rfl⟩
  · rw [if_neg ho, if_neg (fun h2 => h2 hn)] at h
    by_cases hr : (recsB (readS nm st).1).2 = []
    · rw [if_pos hr] at h; cases h; exact absurd rfl he
    · rw [if_neg hr] at h
      refine ⟨?_, fun h2 => absurd h2 ho⟩
      have hwl := congrArg List.length (recsB_whole (readS nm st).1)
      rw [List.length_append] at hwl
      unfold cutS at h
      rw [if_neg ho] at h
      unfold readS at h hwl hr
      rw [if_neg ho] at h hwl hr
      cases hf : st.files nm with
      | none => rw [hf] at hr; exact absurd (by rw [recsB_nil]) hr
      | some v =>
        rw [hf] at h hwl
        dsimp only at h hwl
        rw [if_neg (by omega), deedS_eq] at h
        split at h
        · cases h; rfl
        · cases h; exact absurd rfl he
theorem journal_open_no {w0 : World} {A : List HProp} {d : Nat} {nm : ByteArray} {st st' : DSt} {e : Int} (hd : 0 ≤ st.deeds ∧ st.deeds + 1 ≤ 9223372036854775807) (hn : okName nm) (h : openS nm st = (st', e)) (he : e ≠ 0) :
    Fun Try.prog w0 10 [.pointer (some ⟨d, 0, none⟩), .string nm] (pdisk d st :: A) (Ret w0 (fun _ : Unit => True) (fun _ => .tuple #[.pointer none, .slice none 0 0, .int .i64 20]) (fun _ => pdisk d st' :: A)) := by
  obtain ⟨rfl, h2⟩ := openS_err hn h he
  cases ho : st.off with
  | true => rw [h2 ho]; exact journal_open_off ho
  | false => exact journal_open_bad hd ho hn he h
theorem ref_open_no {w0 : World} {A : List HProp} {r N : Nat} {nm : ByteArray} {st st' : DSt} {e : Int} (hN : N ≤ 1099511627776) (hd : 0 ≤ st.deeds ∧ st.deeds + 1 ≤ 9223372036854775807) (hn : okName nm) (h : openS nm st = (st', e)) (he : e ≠ 0) (hb : (readS nm st).1.length ≤ 16777216) :
    Fun Try.prog w0 20 [.pointer (some ⟨r, 0, none⟩), .string nm] (rdisk r N st :: A) (Ret w0 (fun _ : Unit => True) (fun _ => .tuple #[.pointer none, .slice none 0 0, .int .i64 20]) (fun _ => rdisk r N st' :: A)) := by
  cases ho : st.off with
  | true =>
    rw [(openS_err hn h he).2 ho]
    refine Fun.ex (fun w h => rdisk_open h) ?_
    rintro ⟨base, c, l⟩ ⟨hr, hc⟩
    exact (ref_open_off ho).mono fun e w ⟨i, hi, he, hO⟩ => ⟨i, hi, he, rdisk_mk hr hc hO⟩
  | false => exact ref_open_bad hN hd ho hn he h hb
end Go.Proofs.Ytephlppgappcnaa
