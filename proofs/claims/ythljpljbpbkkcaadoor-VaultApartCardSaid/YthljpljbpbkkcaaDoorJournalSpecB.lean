/-
  Layer 3: names, journals as chunks; Add, Len.
-/
import Derived.Test.YthljpljbpbkkcaaDoorJournalSpecA
set_option linter.unusedVariables false
set_option linter.unusedSimpArgs false
set_option maxRecDepth 4000
namespace Go.Proofs.YthljpljbpbkkcaaDoor
open Go.Sl Go.RowKit Go.Pack Go.Journal

theorem getD_lt {α : Type} {l : List α} {k : Nat} {d : α} (h : k < l.length) : l.getD k d = l[k] := by rw [List.getD_eq_getElem?_getD, List.getElem?_eq_getElem h]; rfl
theorem str_at {s : ByteArray} {i : Nat} (h : i < s.size) : s[((i : Int)).toNat]? = some (s.data.toList.getD i 0) := by
  have e : ((i : Int)).toNat = i := by omega
  have h2 : i < s.data.toList.length := by simpa using h
  rw [e, List.getD_eq_getElem?_getD, List.getElem?_eq_getElem h2, getElem?_pos s i h]
  rfl
theorem okName_at {s : ByteArray} (h : okName s) {i : Nat} (hi : i < s.size) : okByte (s.data.toList.getD i 0) := by
  have h2 : i < s.data.toList.length := by simpa using hi
  rw [getD_lt h2]
  exact h.1 _ (List.getElem_mem h2)
theorem okName_of {s : ByteArray} (h0 : s.size ≠ 0) (h16 : s.size ≤ 16) (h : ∀ j, j < s.size → okByte (s.data.toList.getD j 0)) : okName s := by
  refine ⟨fun c hc => ?_, h0, h16⟩
  obtain ⟨j, hj⟩ := List.mem_iff_getElem?.1 hc
  obtain ⟨hl, rfl⟩ := List.getElem?_eq_some_iff.1 hj
  have := h j (by simpa using hl)
  rwa [getD_lt hl] at this
theorem journal_may {w0 : World} {A : List HProp} {s : ByteArray} : Fun Tryd.prog w0 32 [.string s] A (Ret w0 (fun _ : Unit => True) (fun _ => .bool (decide (okName s))) (fun _ => A)) := by
  refine Fun.enter Tryd.func32 rfl Tryd.ntmps32 rfl ?_
  refine WC.seq <| WC.region <| sv (vaB rfl) <| WL.nil <| WX.thenN <| WC.seq <| ?_
  refine WC.cut0 [(11, .bool (decide (¬ (s.size ≠ 0 ∧ s.size ≤ 16))))] [(0, .string _)] (A) ⟨rfl, trivial⟩ ?_ fun ρh => ?_
  · -- journal.go:83
    refine WC.region <| sv (vmT rfl) <| svs (veqs rfl rfl) (fun q1 => ?_) (fun q1 => ?_)
    ·
      exact sv (vmB rfl) <| sng rfl <| sng rfl <| sng rfl <| sv (vpkt rfl) <| WL.nil <| WX.mid () trivial ⟨bT (fun h => h.1 (by rw [q1]; rfl)), trivial⟩ ⟨rfl, trivial⟩ (fun _ h => h)
    ·
      exact sv (vmB rfl) <| svg rfl (vmT rfl) <| svg rfl (vlens Tryd.underlying9 rfl) <| svg rfl (vgt rfl rfl) <| sv (vpkf rfl) <| WL.nil <| WX.mid () trivial ⟨bI ⟨fun h => by omega, fun h => by have : s.size ≠ 0 := size_ne.1 q1; omega⟩, trivial⟩ ⟨rfl, trivial⟩ (fun _ h => h)
  refine WC.ite rfl (fun h1 => ?_) (fun h1 => ?_)
  · -- then
    exact WC.seq <| WC.region <| sv (vaB rfl) <| WL.nil <| WX.thenN <| WC.ret <| WX.thenR <| WX.ret1 rfl (()) (trivial) (bF (fun h => h1 h.2)) (fun _ h => h)
  · -- else
    refine WC.skip <| WX.thenN <| WC.seq <| WC.seq <| WC.region <| sv (vmT rfl) <| sv (vlens Tryd.underlying9 rfl) <| sv (vmI rfl) <| WL.nil <| WX.thenN <| WC.block <| ?_
    refine WC.loop (ι := Nat) (fun i => [(14, .int .i64 i)]) [(0, .string _), (13, .int _ _)] (fun i => A) (fun i => i ≤ s.size ∧ ∀ j, j < i → okByte (s.data.toList.getD j 0)) (fun i => s.size - i) (0) (⟨Nat.zero_le _, fun j h => by omega⟩) ⟨rfl, trivial⟩ ⟨rfl, rfl, trivial⟩ (fun _ h => h) ?_
    intro i hi ρh
    refine WC.seq <| WC.region <| sv (vlt rfl rfl) <| WL.nil <| WX.thenN <| WC.seq <| ?_
    refine WC.ite rfl (fun h2 => ?_) (fun h2 => ?_)
    · -- then
      obtain ⟨c, hc⟩ : ∃ c, c = s.data.toList.getD i 0 := ⟨_, rfl⟩
      have hat := str_at (s := s) (i := i) (by omega)
      rw [← hc] at hat
      refine WC.skip <| WX.thenN <| WC.seq <| WC.block <| WC.seq <| WC.region <| sv (vmI rfl) <| sv (vaI rfl) <| WL.nil <| WX.thenN <| WC.seq <| WC.region <| sv (vmT rfl) <| sv (vmI rfl) <| sv (vixs Tryd.underlying9 rfl rfl (by omega) hat) <| sv (vaI rfl) <| WL.nil <| WX.thenN <| WC.block <| ?_
      refine WC.cutv (ι := Unit) (fun i => [(20, .bool (decide (okByte c)))]) [(0, .string _), (13, .int _ _), (14, .int _ _)] (fun i => A) (fun i => True) ⟨rfl, rfl, rfl, trivial⟩ ?_ ?_
      · -- up to the join
        refine WC.cut0 [(20, .bool (decide ((97 : Int) ≤ c.toNat ∧ (c.toNat : Int) ≤ 122)))] [(0, .string _), (4, .int _ _), (13, .int _ _), (14, .int _ _)] (A) ⟨rfl, rfl, rfl, rfl, trivial⟩ ?_ fun ρh => ?_
        · -- journal.go:88
          refine WC.region <| sv (vmI rfl) <| svs (vle rfl rfl) (fun q2 => ?_) (fun q2 => ?_)
          ·
            exact sv (vmB rfl) <| svg rfl (vmI rfl) <| svg rfl (vle rfl rfl) <| sv (vpkt rfl) <| sv (vaB rfl) <| WL.nil <| WX.mid () trivial ⟨bI (by first | omega | simp_all | grind), trivial⟩ ⟨rfl, rfl, rfl, rfl, trivial⟩ (fun _ h => h)
          ·
            exact sv (vmB rfl) <| sng rfl <| sng rfl <| sv (vpkf rfl) <| sv (vaB rfl) <| WL.nil <| WX.mid () trivial ⟨bF (by first | omega | simp_all | grind), trivial⟩ ⟨rfl, rfl, rfl, rfl, trivial⟩ (fun _ h => h)
        refine WC.ite rfl (fun h3 => ?_) (fun h3 => ?_)
        · -- then
          exact WC.skip <| WX.mid (()) (trivial) ⟨bI (by unfold okByte; omega), trivial⟩ ⟨rfl, rfl, rfl, trivial⟩ (fun _ h => h)
        · -- else
          refine WC.cut0 [(20, .bool (decide ((48 : Int) ≤ c.toNat ∧ (c.toNat : Int) ≤ 57)))] [(0, .string _), (4, .int _ _), (13, .int _ _), (14, .int _ _)] (A) ⟨rfl, rfl, rfl, rfl, trivial⟩ ?_ fun ρh => ?_
          · -- journal.go:88
            refine WC.region <| sv (vmI rfl) <| svs (vle rfl rfl) (fun q3 => ?_) (fun q3 => ?_)
            ·
              exact sv (vmB rfl) <| svg rfl (vmI rfl) <| svg rfl (vle rfl rfl) <| sv (vpkt rfl) <| sv (vaB rfl) <| WL.nil <| WX.mid () trivial ⟨bI (by first | omega | simp_all | grind), trivial⟩ ⟨rfl, rfl, rfl, rfl, trivial⟩ (fun _ h => h)
            ·
              exact sv (vmB rfl) <| sng rfl <| sng rfl <| sv (vpkf rfl) <| sv (vaB rfl) <| WL.nil <| WX.mid () trivial ⟨bF (by first | omega | simp_all | grind), trivial⟩ ⟨rfl, rfl, rfl, rfl, trivial⟩ (fun _ h => h)
          refine WC.ite rfl (fun h4 => ?_) (fun h4 => ?_)
          · -- then
            exact WC.skip <| WX.mid (()) (trivial) ⟨bI (by unfold okByte; omega), trivial⟩ ⟨rfl, rfl, rfl, trivial⟩ (fun _ h => h)
          · -- else
            refine WC.seq <| WC.region <| sv (vmI rfl) <| sv (veq rfl rfl) <| sv (vaB rfl) <| WL.nil <| WX.thenN <| ?_
            refine WC.ite rfl (fun h5 => ?_) (fun h5 => ?_)
            · -- then
              exact WC.skip <| WX.mid (()) (trivial) ⟨bI (by unfold okByte; omega), trivial⟩ ⟨rfl, rfl, rfl, trivial⟩ (fun _ h => h)
            · -- else
              exact WC.region <| sv (vmI rfl) <| sv (veq rfl rfl) <| sv (vaB rfl) <| WL.nil <| WX.mid (()) (trivial) ⟨bI (by unfold okByte; omega), trivial⟩ ⟨rfl, rfl, rfl, trivial⟩ (fun _ h => h)
      · -- behind the join
        intro _ _ ρh
        refine WC.ite rfl (fun h6 => ?_) (fun h6 => ?_)
        · -- then
          exact WC.skip <| WX.blockN <| WX.blockN <| WX.thenN <| WC.region <| sv (vadd rfl rfl (by omega)) <| sv (vmI rfl) <| WL.nil <| WX.again (i + 1) (⟨by omega, fun j hj => by rcases Nat.lt_succ_iff_lt_or_eq.1 hj with h | rfl; exact hi.2 j h; rw [← hc]; exact h6⟩) (by omega) ⟨rfl, trivial⟩ ⟨rfl, rfl, trivial⟩ (fun _ h => h)
        · -- else
          exact WC.seq <| WC.region <| sv (vaB rfl) <| WL.nil <| WX.thenN <| WC.ret <| WX.blockR <| WX.blockR <| WX.thenR <| WX.thenR <| WX.blockR <| WX.thenR <| WX.ret1 rfl (()) (trivial) (bF (fun h => h6 (by rw [hc]; exact okName_at h (by omega)))) (fun _ h => h)
    · -- else
      exact WC.exit <| WX.thenE <| WX.thenE <| WX.blockH <| WX.thenN <| WC.seq <| WC.region <| sv (vaB rfl) <| WL.nil <| WX.thenN <| WC.ret <| WX.ret1 rfl (()) (trivial) (bT (okName_of (by omega) (by omega) (fun j hj => hi.2 j (by omega)))) (fun _ h => h)
/-- a record added to a file: the disk, and the answer -/
def addP (nm : ByteArray) (rec : List UInt8) (st : DSt) : DSt × Int :=
  if (appendS nm (frameB rec) st).2 = 0 then syncS nm (appendS nm (frameB rec) st).1 else appendS nm (frameB rec) st
abbrev jcells (d : Nat) (nm : ByteArray) (n : Int) (sick : Bool) : List Value := [.pointer (some ⟨d, 0, none⟩), .string nm, .int .i64 n, .bool sick]
theorem offS_deeds (keep : Int) (st : DSt) : (offS keep st).deeds = st.deeds := by unfold offS; split <;> rfl
theorem deedS_deeds (f g) (st : DSt) : (deedS f g st).1.deeds = st.deeds + 1 := by unfold deedS; split; rw [offS_deeds]; rfl
theorem appendS_deeds (nm : ByteArray) (b : List UInt8) (st : DSt) : st.deeds ≤ (appendS nm b st).1.deeds ∧ (appendS nm b st).1.deeds ≤ st.deeds + 1 := by
  unfold appendS
  split
  · dsimp only; omega
  · split
    · dsimp only; omega
    · split
      · dsimp only; omega
      · rw [deedS_deeds]; omega
theorem journal_add_sick {w0 : World} {A : List HProp} {j d k c : Nat} {nm : ByteArray} {n : Int} {base : Option Addr} :
    Fun Tryd.prog w0 43 [.pointer (some ⟨j, 0, none⟩), .slice base k c] (cel j (jcells d nm n true) 80 :: A) (Ret w0 (fun _ : Unit => True) (fun _ => .int .i64 20) (fun _ => cel j (jcells d nm n true) 80 :: A)) := by
  refine Fun.enter Tryd.func43 rfl Tryd.ntmps43 rfl ?_
  refine WC.seq <| WC.region <| sv (vaI rfl) <| WL.nil <| WX.thenN <| WC.seq <| WC.block <| WC.seq <| WC.region <| sv (vmP rfl) <| sv (vpeqF Tryd.underlying49 rfl rfl) <| sv (vaB rfl) <| WL.nil <| WX.thenN <| ?_
  refine WC.ff rfl ?_
  refine WC.seq <| WC.region <| sv (vmP rfl) <| sv (vnil rfl) <| sv (vfld fl80f3 rfl) <| sv (vldc pl4 rfl) <| sv (vaB rfl) <| WL.nil <| WX.thenN <| ?_
  refine WC.tt rfl ?_
  exact WC.seq <| WC.region <| sv (vaI rfl) <| WL.nil <| WX.thenN <| WC.ret <| WX.blockR <| WX.thenR <| WX.ret1 rfl (()) (trivial) rfl (fun _ h => h)
theorem journal_add_long {w0 : World} {A : List HProp} {j d k c : Nat} {nm : ByteArray} {n : Int} {base : Option Addr} (hk : 1048576 < k) :
    Fun Tryd.prog w0 43 [.pointer (some ⟨j, 0, none⟩), .slice base k c] (cel j (jcells d nm n false) 80 :: A) (Ret w0 (fun _ : Unit => True) (fun _ => .int .i64 2) (fun _ => cel j (jcells d nm n false) 80 :: A)) := by
  refine Fun.enter Tryd.func43 rfl Tryd.ntmps43 rfl ?_
  refine WC.seq <| WC.region <| sv (vaI rfl) <| WL.nil <| WX.thenN <| WC.seq <| WC.block <| WC.seq <| WC.region <| sv (vmP rfl) <| sv (vpeqF Tryd.underlying49 rfl rfl) <| sv (vaB rfl) <| WL.nil <| WX.thenN <| ?_
  refine WC.ff rfl ?_
  refine WC.seq <| WC.region <| sv (vmP rfl) <| sv (vnil rfl) <| sv (vfld fl80f3 rfl) <| sv (vldc pl4 rfl) <| sv (vaB rfl) <| WL.nil <| WX.thenN <| ?_
  refine WC.ff rfl ?_
  refine WC.seq <| WC.region <| sv (vmS rfl) <| sv (vlen Tryd.underlying25 rfl) <| sv (vgt rfl rfl) <| sv (vaB rfl) <| WL.nil <| WX.thenN <| ?_
  refine WC.ite rfl (fun h3 => ?_) (fun h3 => ?_)
  · -- then
    exact WC.seq <| WC.region <| sv (vaI rfl) <| WL.nil <| WX.thenN <| WC.ret <| WX.blockR <| WX.thenR <| WX.ret1 rfl (()) (trivial) rfl (fun _ h => h)
  · -- else
    omega
theorem journal_add_ok {w0 : World} {A : List HProp} {j d k c : Nat} {nm : ByteArray} {n : Int} {base : Option Addr} {rec : List UInt8} {st : DSt} (hR : RdC w0 A base (u8s rec)) (hk : k = rec.length) (hl : rec.length ≤ 1048576) (hs : nm.size ≤ 140737488351232) (hd : 0 ≤ st.deeds ∧ st.deeds + 2 ≤ 9223372036854775807) (hn : 0 ≤ n ∧ n + 1 ≤ 9223372036854775807) :
    Fun Tryd.prog w0 43 [.pointer (some ⟨j, 0, none⟩), .slice base k c] (cel j (jcells d nm n false) 80 :: pdisk d st :: A)
      (Ret w0 (fun _ : Unit => True) (fun _ => .int .i64 (addP nm rec st).2) (fun _ => cel j (jcells d nm (if (addP nm rec st).2 = 0 then n + 1 else n) (decide ((addP nm rec st).2 = 20))) 80 :: pdisk d (addP nm rec st).1 :: A)) := by
  have hap := appendS_deeds nm (frameB rec) st
  refine Fun.enter Tryd.func43 rfl Tryd.ntmps43 rfl ?_
  refine WC.seq <| WC.region <| sv (vaI rfl) <| WL.nil <| WX.thenN <| WC.seq <| WC.block <| WC.seq <| WC.region <| sv (vmP rfl) <| sv (vpeqF Tryd.underlying49 rfl rfl) <| sv (vaB rfl) <| WL.nil <| WX.thenN <| ?_
  refine WC.ff rfl ?_
  refine WC.seq <| WC.region <| sv (vmP rfl) <| sv (vnil rfl) <| sv (vfld fl80f3 rfl) <| sv (vldc pl4 rfl) <| sv (vaB rfl) <| WL.nil <| WX.thenN <| ?_
  refine WC.ff rfl ?_
  refine WC.seq <| WC.region <| sv (vmS rfl) <| sv (vlen Tryd.underlying25 rfl) <| sv (vgt rfl rfl) <| sv (vaB rfl) <| WL.nil <| WX.thenN <| ?_
  refine WC.ite rfl (fun h3 => ?_) (fun h3 => ?_)
  · -- then
    omega
  · -- else
    refine WC.skip <| WX.blockN <| WX.thenN <| WC.seq <| WC.plan (.pre [8] (.one [0, 1, 2, 3, 4, 5, 6, 7] 9 (.bar [] 10 (.done [11])))) rfl (by kernel_rfl) <| WPl.pre (trivial) <| dv (fun g => (vmS rfl)) <| WD.nil <| WPl.one (fun g => g ++ cel j (jcells d nm n false) 80 :: pdisk d st :: A) ([]) (fun _ => trivial) (rfl) <| dv (fun g => (vmP rfl)) <| dv (fun g => (vnil rfl)) <| dv (fun g => (vfld fl80f0 rfl)) <| dv (fun g => (vldc pl31 rfl)) <| dv (fun g => (vmP rfl)) <| dv (fun g => (vnil rfl)) <| dv (fun g => (vfld fl80f1 rfl)) <| dv (fun g => (vldc pl9 rfl)) <| WD.eff rfl <| cl (journal_frame hR.cons.cons hk hl) ct56 rfl fun r5 hr5 => WL.nil <| WX.br <| WPl.bar (⟨[_], rfl⟩) <| WD.eff rfl <| pm (fun _ h => h.pk2) <| cl (disk_append (nm := nm) (b := frameB rec) hs (by omega) (by rw [frameB_len]; omega) rfl) ct55 rfl fun _ _ => WL.nil <| WX.brT <| WPl.fin (trivial) <| dv (fun g => (vaI rfl)) <| WD.nil <| WX.thenN <| ?_
    refine WC.cutv (ι := Unit) (fun i => [(5, .int .i64 (addP nm rec st).2)]) [(0, .pointer _)] (fun i => pdisk d (addP nm rec st).1 :: cel j (jcells d nm n false) 80 :: A) (fun i => True) ⟨rfl, trivial⟩ ?_ ?_
    · -- up to the join
      refine WC.seq <| WC.region <| sv (vmI rfl) <| sv (veq rfl rfl) <| WL.nil <| WX.thenN <| ?_
      refine WC.ite rfl (fun h4 => ?_) (fun h4 => ?_)
      · -- then
        refine WC.plan (.bar [0, 1, 2, 3, 4, 5, 6, 7] 8 (.done [9])) rfl (by kernel_rfl) <| WPl.bar (trivial) <| dv (fun g => (vmP rfl)) <| dv (fun g => (vnil rfl)) <| dv (fun g => (vfld fl80f0 rfl)) <| dv (fun g => (vldc pl31 rfl)) <| dv (fun g => (vmP rfl)) <| dv (fun g => (vnil rfl)) <| dv (fun g => (vfld fl80f1 rfl)) <| dv (fun g => (vldc pl9 rfl)) <| WD.eff rfl <| cl (disk_sync (nm := nm) (by omega)) ct57 rfl fun _ _ => WL.nil <| WX.brT <| WPl.fin (trivial) <| dv (fun g => (vaI rfl)) <| WD.nil <| WX.mid (()) (trivial) ⟨by show Value.int _ _ = Value.int _ _; unfold addP; rw [if_pos h4], trivial⟩ ⟨rfl, trivial⟩ (fun w h => ?_)
        unfold addP; rw [if_pos h4]
        exact h.pk1.tail
      · -- else
        refine WC.skip <| WX.mid (()) (trivial) ⟨by show Value.int _ _ = Value.int _ _; unfold addP; rw [if_neg h4], trivial⟩ ⟨rfl, trivial⟩ (fun w h => ?_)
        unfold addP; rw [if_neg h4]
        exact h.pk1.tail
    · -- behind the join
      intro _ _ ρh
      refine WC.seq <| WC.seq <| WC.region <| sv (vmI rfl) <| WL.nil <| WX.thenN <| WC.block <| WC.seq <| WC.region <| sv (veq rfl rfl) <| sv (vaB rfl) <| WL.nil <| WX.thenN <| ?_
      refine WC.ite rfl (fun h5 => ?_) (fun h5 => ?_)
      · -- then
        refine WC.region <| sv (vmP rfl) <| sv (vnil rfl) <| sv (vfld fl80f2 rfl) <| sv (vldc pl3 rfl) <| sv (vadd rfl rfl (by omega)) <| sv (vnil rfl) <| sv (vfld fl80f2 rfl) <| pm (fun _ h => h.pk1) <| stc (v := .int _ _) pl3 sz3 rfl rfl rfl <| WL.nil <| WX.blockN <| WX.thenN <| WC.seq <| WC.region <| sv (vmI rfl) <| sv (vaI rfl) <| WL.nil <| WX.thenN <| WC.ret <| WX.ret1 rfl (()) (trivial) rfl (fun w h => ?_)
        rw [if_pos h5, decide_eq_false (by omega)]; exact h
      · -- else
        refine WC.seq <| WC.region <| sv (veq rfl rfl) <| sv (vaB rfl) <| WL.nil <| WX.thenN <| ?_
        refine WC.ite rfl (fun h6 => ?_) (fun h6 => ?_)
        · -- then
          refine WC.region <| sv (vmP rfl) <| sv (vnil rfl) <| sv (vfld fl80f3 rfl) <| pm (fun _ h => h.pk1) <| stc (v := .bool _) pl4 sz4 rfl rfl rfl <| WL.nil <| WX.blockN <| WX.thenN <| WC.seq <| WC.region <| sv (vmI rfl) <| sv (vaI rfl) <| WL.nil <| WX.thenN <| WC.ret <| WX.ret1 rfl (()) (trivial) rfl (fun w h => ?_)
          rw [if_neg (by omega), decide_eq_true h6]; exact h
        · -- else
          refine WC.skip <| WX.blockN <| WX.thenN <| WC.seq <| WC.region <| sv (vmI rfl) <| sv (vaI rfl) <| WL.nil <| WX.thenN <| WC.ret <| WX.ret1 rfl (()) (trivial) rfl (fun w h => ?_)
          rw [if_neg h5, decide_eq_false h6]; exact h.pk1
end Go.Proofs.YthljpljbpbkkcaaDoor
