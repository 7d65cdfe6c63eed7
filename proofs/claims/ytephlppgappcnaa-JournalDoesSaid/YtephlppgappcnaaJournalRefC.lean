/-
  Layer 3's reference: a journal opened, a record added.
-/
import Derived.Test.YtephlppgappcnaaJournalRefB
import Derived.Test.YtephlppgappcnaaRefDiskF
set_option linter.unusedVariables false
set_option linter.unusedSimpArgs false
set_option maxRecDepth 4000
namespace Go.Proofs.Ytephlppgappcnaa
open Go.Sl Go.RowKit Go.Pack Go.Journal

theorem ref_read_any {w0 : World} {A : List HProp} {r c : Nat} {base : Option Addr} {st : DSt} {l : List RF} {nm : ByteArray} {bs : List UInt8} {e : Int} (hl : l.length ≤ 1099511627776) (hr : RRep l st) (ho : st.off = false) (hb : readS nm st = (bs, e)) :
    Fun Try.prog w0 39 [.pointer (some ⟨r, 0, none⟩), .string nm] (cel r (rcells base l.length c st) 50 :: row base c 3 79 (fcells l) :: rows 5 (l.map (·.b)) :: A)
      (Ret w0 (fun i : Option Addr × Nat => RdC w0 (cel r (rcells base l.length c st) 50 :: row base c 3 79 (fcells l) :: rows 5 (l.map (·.b)) :: A) i.1 (u8s bs) ∧ bs.length ≤ i.2) (fun i => .tuple #[.slice i.1 bs.length i.2, .int .i64 e])
        (fun _ => cel r (rcells base l.length c st) 50 :: row base c 3 79 (fcells l) :: rows 5 (l.map (·.b)) :: A)) := by
  unfold readS at hb
  rw [if_neg (by rw [ho]; decide)] at hb
  cases hf : st.files nm with
  | none =>
    rw [hf] at hb
    cases hb
    exact (ref_read_no hl ho (hr.no hf)).mono fun e w ⟨i, hi, he, hO⟩ => ⟨(none, 0), ⟨RdC.nil, Nat.le_refl _⟩, he, hO⟩
  | some v =>
    rw [hf] at hb
    obtain ⟨j, x, hj, rfl, rfl⟩ := hr.at hf
    cases hb
    have hm : x.b ∈ l.map (·.b) := List.mem_map.2 ⟨x, List.mem_of_getElem? hj, rfl⟩
    exact (ref_read_ok hl hr ho hj).mono fun e w ⟨i, hi, he, hO⟩ => ⟨(x.b.base, x.b.cap), ⟨RdC.of_rows (e := 5) (l := l.map (·.b)) (by simp) hm, (hr.ok x (List.mem_of_getElem? hj)).2.2⟩, he, hO⟩
theorem ref_cut_at {w0 : World} {A : List HProp} {r N : Nat} {st st' : DSt} {nm : ByteArray} {n e : Int} (hd : 0 ≤ st.deeds ∧ st.deeds + 1 ≤ 9223372036854775807) (hN : N ≤ 1099511627776) (h : cutS nm n st = (st', e)) :
    Fun Try.prog w0 40 [.pointer (some ⟨r, 0, none⟩), .string nm, .int .i64 n] (rdisk r N st :: A) (Ret w0 (fun _ : Unit => True) (fun _ => .int .i64 e) (fun _ => rdisk r N st' :: A)) := by
  have := ref_cut (w0 := w0) (A := A) (r := r) (nm := nm) (n := n) hd hN
  rw [h] at this; exact this
theorem ref_open_off {w0 : World} {A : List HProp} {r n c : Nat} {base : Option Addr} {nm : ByteArray} {st : DSt} (ho : st.off = true) :
    Fun Try.prog w0 20 [.pointer (some ⟨r, 0, none⟩), .string nm] (cel r (rcells base n c st) 50 :: A) (Ret w0 (fun _ : Unit => True) (fun _ => .tuple #[.pointer none, .slice none 0 0, .int .i64 20]) (fun _ => cel r (rcells base n c st) 50 :: A)) := by
  obtain ⟨files, off, fuse, keep0, deeds⟩ := st
  obtain rfl : off = true := ho
  refine Fun.enter Try.func20 rfl Try.ntmps20 rfl ?_
  refine WC.seq <| WC.region <| sv (vaP rfl) <| sv (vaS rfl) <| sv (vaI rfl) <| WL.nil <| WX.thenN <| WC.seq <| WC.seq <| WC.region <| sv (vmP rfl) <| sv (vnil rfl) <| sv (vfld fl50f1 rfl) <| sv (vldc pl4 rfl) <| WL.nil <| WX.thenN <| ?_
  refine WC.tt rfl ?_
  exact WC.seq <| WC.region <| sv (vaP rfl) <| sv (vaS rfl) <| sv (vaI rfl) <| WL.nil <| WX.thenN <| WC.ret <| WX.thenR <| WX.ret3 rfl (()) (trivial) rfl (fun _ h => h)
abbrev wcells (r : Nat) (nm : ByteArray) (n : Int) (sick : Bool) : List Value := [.pointer (some ⟨r, 0, none⟩), .string nm, .int .i64 n, .bool sick]
theorem ref_open_ok {w0 : World} {A : List HProp} {r N : Nat} {nm : ByteArray} {st st' : DSt} {recs : List (List UInt8)} (hN : N ≤ 1099511627776) (hd : 0 ≤ st.deeds ∧ st.deeds + 1 ≤ 9223372036854775807) (ho : openS nm st = (st', 0)) (hrecs : (recsB (readS nm st).1).1 = recs) (hblen : (readS nm st).1.length ≤ 16777216) :
    Fun Try.prog w0 20 [.pointer (some ⟨r, 0, none⟩), .string nm] (rdisk r N st :: A)
      (Ret w0 (fun i : Nat × Option Addr × Nat × List (Sla UInt8) => i.2.2.2.map (·.xs) = recs ∧ i.2.2.2.length ≤ i.2.2.1)
        (fun i => .tuple #[.pointer (some ⟨i.1, 0, none⟩), .slice i.2.1 i.2.2.2.length i.2.2.1, .int .i64 0])
        (fun i => cel i.1 (wcells r nm i.2.2.2.length false) 55 :: rdisk r N st' :: row i.2.1 i.2.2.1 1 22 (bss i.2.2.2) :: rows 5 i.2.2.2 :: A)) := by
  refine Fun.ex (fun w h => rdisk_open h) ?_
  rintro ⟨base, c, l⟩ ⟨hr, hc⟩
  dsimp only at hr hc ⊢
  have h1 : st.off = false := by
    cases h : st.off with
    | false => rfl
    | true => unfold openS at ho; rw [if_pos h] at ho; cases ho
  have hno : ¬ st.off = true := by rw [h1]; decide
  have h2 : decide (okName nm) = true := by
    by_cases h : okName nm
    · simpa using h
    · unfold openS at ho; rw [if_neg hno, if_pos h] at ho; cases ho
  unfold openS at ho
  rw [if_neg hno, if_neg (by simpa using h2)] at ho
  obtain ⟨b, hb⟩ : ∃ b, b = (readS nm st).1 := ⟨_, rfl⟩
  obtain ⟨e, he⟩ : ∃ e, e = (readS nm st).2 := ⟨_, rfl⟩
  have hrd : readS nm st = (b, e) := by rw [hb, he]
  rw [← hb] at ho hblen hrecs
  have hwl := congrArg List.length (recsB_whole b)
  rw [List.length_append] at hwl
  have hcut : ((flat (recsB b).1).length : Int) < (b.length : Int) → cutS nm ((flat (recsB b).1).length : Int) st = (st', 0) := fun h => by
    rw [if_neg (fun h2 => by rw [h2] at hwl; simp at hwl; omega)] at ho
    rw [← ho]; congr 1; omega
  have hsame : ¬ ((flat (recsB b).1).length : Int) < (b.length : Int) → st = st' := fun h => by
    rw [if_pos (List.eq_nil_of_length_eq_zero (by omega))] at ho; cases ho; rfl
  obtain ⟨files, off, fuse, keep0, deeds⟩ := st
  obtain rfl : off = false := h1
  refine Fun.enter Try.func20 rfl Try.ntmps20 rfl ?_
  refine WC.seq <| WC.region <| sv (vaP rfl) <| sv (vaS rfl) <| sv (vaI rfl) <| WL.nil <| WX.thenN <| WC.seq <| WC.seq <| WC.region <| sv (vmP rfl) <| sv (vnil rfl) <| sv (vfld fl50f1 rfl) <| sv (vldc pl4 rfl) <| WL.nil <| WX.thenN <| ?_
  refine WC.ff rfl ?_
  refine WC.skip <| WX.thenN <| WC.seq <| WC.seq <| WC.region <| sv (vmT rfl) <| cl (h2 ▸ ref_name) ct38 rfl fun _ _ => sv (vnot rfl) <| WL.nil <| WX.thenN <| ?_
  refine WC.ff rfl ?_
  refine WC.skip <| WX.thenN <| WC.seq <| WC.region <| sv (vmP rfl) <| sv (vmT rfl) <| cl (ref_read_any (by omega) hr rfl hrd) ct39 rfl fun i3 hi3 => ?_
  obtain ⟨hr3, hc3⟩ := hi3
  refine sv vmv <| sv (vex rfl rfl) <| sv (vex rfl rfl) <| sv (vaS rfl) <| sv (vaI rfl) <| WL.nil <| WX.thenN <| WC.seq <| WC.region <| sv (vmS rfl) <| cl (ref_all hr3 rfl hc3 (by omega)) ct14 rfl fun i4 hi4 => ?_
  obtain ⟨u4, v4⟩ := hi4
  refine sv vmv <| sv (vex rfl rfl) <| sv (vex rfl rfl) <| sv (vaS rfl) <| sv (vaI rfl) <| WL.nil <| WX.thenN <| WC.seq <| ?_
  refine WC.cut0 [(39, .bool false)] [(0, .pointer _), (1, .string _), (9, .slice _ _ _)] (rdisk r N st' :: row i4.1 i4.2.1 1 22 (bss i4.2.2) :: rows 5 i4.2.2 :: A) ⟨rfl, rfl, rfl, trivial⟩ ?_ fun ρh => ?_
  · -- ref.go:80
    refine WC.region <| sv (vmI rfl) <| sv (vmS rfl) <| sv (vlen Try.underlying22 rfl) <| svs (vlt rfl rfl) (fun q1 => ?_) (fun q1 => ?_)
    ·
      exact sv (vmB rfl) <| svg rfl (vmP rfl) <| svg rfl (vmT rfl) <| svg rfl (vmI rfl) <| pm (fun _ h => rdisk_mk hr hc (h.ix [2, 3, 4, 0, 1])) <| gy rfl <| cl (ref_cut_at hd hN (hcut q1)) ct40 rfl fun _ _ => svg rfl (vF (vne rfl rfl) (by omega)) <| sv (vpkt rfl) <| WL.nil <| WX.mid () trivial ⟨rfl, trivial⟩ ⟨rfl, rfl, rfl, trivial⟩ (fun _ h => h)
    ·
      exact sv (vmB rfl) <| sng rfl <| sng rfl <| sng rfl <| sng rfl <| sng rfl <| sv (vpkf rfl) <| WL.nil <| WX.mid () trivial ⟨rfl, trivial⟩ ⟨rfl, rfl, rfl, trivial⟩ (fun w h => hsame q1 ▸ rdisk_mk hr hc (h.ix [2, 3, 4, 0, 1]))
  refine WC.ff rfl ?_
  exact WC.skip <| WX.thenN <| WC.seq <| WC.region <| sv (vmP rfl) <| sv (vmT rfl) <| sv (vmS rfl) <| sv (vlen Try.underlying28 rfl) <| sv (vbd (ps := [(0, .pointer _), (1, .string _), (2, .int _ _)]) (cs := [_, _, _, _]) bt55 zt55 rfl (by rfl)) <| bxc (v := .agg _) (cs := [.pointer _, .string _, .int _ _, .bool _]) rfl rfl fun b7 => sv (vmS rfl) <| sv (vaP rfl) <| sv (vaS rfl) <| sv (vaI rfl) <| WL.nil <| WX.thenN <| WC.ret <| WX.ret3 rfl ((b7, i4.1, i4.2.1, i4.2.2)) (⟨u4.trans hrecs, v4⟩) rfl (fun _ h => h)
theorem ref_open_bad {w0 : World} {A : List HProp} {r N : Nat} {nm : ByteArray} {st st' : DSt} {er : Int} (hN : N ≤ 1099511627776) (hd : 0 ≤ st.deeds ∧ st.deeds + 1 ≤ 9223372036854775807) (h1 : st.off = false) (hnm : okName nm) (her : er ≠ 0) (ho : openS nm st = (st', er)) (hblen : (readS nm st).1.length ≤ 16777216) :
    Fun Try.prog w0 20 [.pointer (some ⟨r, 0, none⟩), .string nm] (rdisk r N st :: A)
      (Ret w0 (fun _ : Unit => True) (fun _ => .tuple #[.pointer none, .slice none 0 0, .int .i64 20]) (fun _ => rdisk r N st' :: A)) := by
  refine Fun.ex (fun w h => rdisk_open h) ?_
  rintro ⟨base, c, l⟩ ⟨hr, hc⟩
  dsimp only at hr hc ⊢
  have hno : ¬ st.off = true := by rw [h1]; decide
  have h2 : decide (okName nm) = true := by simpa using hnm
  unfold openS at ho
  rw [if_neg hno, if_neg (by simpa using h2)] at ho
  obtain ⟨b, hb⟩ : ∃ b, b = (readS nm st).1 := ⟨_, rfl⟩
  obtain ⟨e, he⟩ : ∃ e, e = (readS nm st).2 := ⟨_, rfl⟩
  have hrd : readS nm st = (b, e) := by rw [hb, he]
  rw [← hb] at ho hblen
  have hwl := congrArg List.length (recsB_whole b)
  rw [List.length_append] at hwl
  have hlt : ((flat (recsB b).1).length : Int) < (b.length : Int) := by
    by_cases h : (recsB b).2 = []
    · rw [if_pos h] at ho; cases ho; exact absurd rfl her
    · have : 0 < (recsB b).2.length := List.length_pos_iff.2 h
      omega
  have hcut : cutS nm ((flat (recsB b).1).length : Int) st = (st', er) := by
    rw [if_neg (fun h2 => by rw [h2] at hwl; simp at hwl; omega)] at ho
    rw [← ho]; congr 1; omega
  obtain ⟨files, off, fuse, keep0, deeds⟩ := st
  obtain rfl : off = false := h1
  refine Fun.enter Try.func20 rfl Try.ntmps20 rfl ?_
  refine WC.seq <| WC.region <| sv (vaP rfl) <| sv (vaS rfl) <| sv (vaI rfl) <| WL.nil <| WX.thenN <| WC.seq <| WC.seq <| WC.region <| sv (vmP rfl) <| sv (vnil rfl) <| sv (vfld fl50f1 rfl) <| sv (vldc pl4 rfl) <| WL.nil <| WX.thenN <| ?_
  refine WC.ff rfl ?_
  refine WC.skip <| WX.thenN <| WC.seq <| WC.seq <| WC.region <| sv (vmT rfl) <| cl (h2 ▸ ref_name) ct38 rfl fun _ _ => sv (vnot rfl) <| WL.nil <| WX.thenN <| ?_
  refine WC.ff rfl ?_
  refine WC.skip <| WX.thenN <| WC.seq <| WC.region <| sv (vmP rfl) <| sv (vmT rfl) <| cl (ref_read_any (by omega) hr rfl hrd) ct39 rfl fun i3 hi3 => ?_
  obtain ⟨hr3, hc3⟩ := hi3
  refine sv vmv <| sv (vex rfl rfl) <| sv (vex rfl rfl) <| sv (vaS rfl) <| sv (vaI rfl) <| WL.nil <| WX.thenN <| WC.seq <| WC.region <| sv (vmS rfl) <| cl (ref_all hr3 rfl hc3 (by omega)) ct14 rfl fun i4 hi4 => ?_
  obtain ⟨u4, v4⟩ := hi4
  refine sv vmv <| sv (vex rfl rfl) <| sv (vex rfl rfl) <| sv (vaS rfl) <| sv (vaI rfl) <| WL.nil <| WX.thenN <| WC.seq <| ?_
  refine WC.cut0 [(39, .bool true)] [(0, .pointer _), (1, .string _), (9, .slice _ _ _)] (rdisk r N st' :: row i4.1 i4.2.1 1 22 (bss i4.2.2) :: rows 5 i4.2.2 :: A) ⟨rfl, rfl, rfl, trivial⟩ ?_ fun ρh => ?_
  · -- ref.go:80
    refine WC.region <| sv (vmI rfl) <| sv (vmS rfl) <| sv (vlen Try.underlying22 rfl) <| svs (vlt rfl rfl) (fun q1 => ?_) (fun q1 => ?_)
    ·
      exact sv (vmB rfl) <| svg rfl (vmP rfl) <| svg rfl (vmT rfl) <| svg rfl (vmI rfl) <| pm (fun _ h => rdisk_mk hr hc (h.ix [2, 3, 4, 0, 1])) <| gy rfl <| cl (ref_cut_at hd hN hcut) ct40 rfl fun _ _ => svg rfl (vT (vne rfl rfl) (by omega)) <| sv (vpkt rfl) <| WL.nil <| WX.mid () trivial ⟨rfl, trivial⟩ ⟨rfl, rfl, rfl, trivial⟩ (fun _ h => h)
    ·
      exact sv (vmB rfl) <| sng rfl <| sng rfl <| sng rfl <| sng rfl <| sng rfl <| sv (vpkf rfl) <| WL.nil <| WX.mid () trivial ⟨(absurd hlt q1), trivial⟩ ⟨rfl, rfl, rfl, trivial⟩ (fun w h => absurd hlt q1)
  refine WC.tt rfl ?_
  exact WC.seq <| WC.region <| sv (vaP rfl) <| sv (vaS rfl) <| sv (vaI rfl) <| WL.nil <| WX.thenN <| WC.ret <| WX.thenR <| WX.ret3 rfl (()) (trivial) rfl (fun w h => h.pk1.tail.pk1.tail)
theorem ref_jadd_sick {w0 : World} {A : List HProp} {w r k c : Nat} {nm : ByteArray} {n : Int} {base : Option Addr} :
    Fun Try.prog w0 21 [.pointer (some ⟨w, 0, none⟩), .slice base k c] (cel w (wcells r nm n true) 55 :: A) (Ret w0 (fun _ : Unit => True) (fun _ => .int .i64 20) (fun _ => cel w (wcells r nm n true) 55 :: A)) := by
  refine Fun.enter Try.func21 rfl Try.ntmps21 rfl ?_
  refine WC.seq <| WC.region <| sv (vaI rfl) <| WL.nil <| WX.thenN <| WC.seq <| WC.seq <| WC.region <| sv (vmP rfl) <| sv (vnil rfl) <| sv (vfld fl55f3 rfl) <| sv (vldc pl4 rfl) <| WL.nil <| WX.thenN <| ?_
  refine WC.tt rfl ?_
  exact WC.seq <| WC.region <| sv (vaI rfl) <| WL.nil <| WX.thenN <| WC.ret <| WX.thenR <| WX.ret1 rfl (()) (trivial) rfl (fun _ h => h)
theorem ref_jadd_ok {w0 : World} {A : List HProp} {w r N k c : Nat} {nm : ByteArray} {n : Int} {base : Option Addr} {rec : List UInt8} {st : DSt} (hN : N + 1 ≤ 1099511627776) (hR : RdC w0 A base (u8s rec)) (hk : k = rec.length) (hl : rec.length ≤ 1048576) (hd : 0 ≤ st.deeds ∧ st.deeds + 2 ≤ 9223372036854775807) (hn : 0 ≤ n ∧ n + 1 ≤ 9223372036854775807) :
    Fun Try.prog w0 21 [.pointer (some ⟨w, 0, none⟩), .slice base k c] (cel w (wcells r nm n false) 55 :: rdisk r N st :: A)
      (Ret w0 (fun _ : Unit => True) (fun _ => .int .i64 (addP nm rec st).2) (fun _ => cel w (wcells r nm (if (addP nm rec st).2 = 0 then n + 1 else n) (decide ((addP nm rec st).2 = 20))) 55 :: rdisk r (N + 1) (addP nm rec st).1 :: A)) := by
  have hap := appendS_deeds nm (frameB rec) st
  refine Fun.enter Try.func21 rfl Try.ntmps21 rfl ?_
  refine WC.seq <| WC.region <| sv (vaI rfl) <| WL.nil <| WX.thenN <| WC.seq <| WC.seq <| WC.region <| sv (vmP rfl) <| sv (vnil rfl) <| sv (vfld fl55f3 rfl) <| sv (vldc pl4 rfl) <| WL.nil <| WX.thenN <| ?_
  refine WC.ff rfl ?_
  refine WC.skip <| WX.thenN <| WC.seq <| WC.seq <| WC.region <| sv (vmS rfl) <| sv (vlen Try.underlying22 rfl) <| sv (vgt rfl rfl) <| WL.nil <| WX.thenN <| ?_
  refine WC.ite rfl (fun h2 => ?_) (fun h2 => ?_)
  · -- then
    omega
  · -- else
    refine WC.skip <| WX.thenN <| WC.seq <| WC.plan (.pre [8] (.one [0, 1, 2, 3, 4, 5, 6, 7] 9 (.bar [] 10 (.done [11])))) rfl (by kernel_rfl) <| WPl.pre (trivial) <| dv (fun g => (vmS rfl)) <| WD.nil <| WPl.one (fun g => g ++ cel w (wcells r nm n false) 55 :: rdisk r N st :: A) ([]) (fun _ => trivial) (rfl) <| dv (fun g => (vmP rfl)) <| dv (fun g => (vnil rfl)) <| dv (fun g => (vfld fl55f0 rfl)) <| dv (fun g => (vldc pl47 rfl)) <| dv (fun g => (vmP rfl)) <| dv (fun g => (vnil rfl)) <| dv (fun g => (vfld fl55f1 rfl)) <| dv (fun g => (vldc pl9 rfl)) <| WD.eff rfl <| cl (ref_frame hR.cons.cons hk hl) ct41 rfl fun r5 hr5 => WL.nil <| WX.br <| WPl.bar (⟨[_], rfl⟩) <| WD.eff rfl <| pm (fun _ h => h.pk2) <| cl (ref_append (nm := nm) (b := frameB rec) hN reads rfl (by omega)) ct25 rfl fun _ _ => WL.nil <| WX.brT <| WPl.fin (trivial) <| dv (fun g => (vaI rfl)) <| WD.nil <| WX.thenN <| ?_
    refine WC.cutv (ι := Unit) (fun i => [(5, .int .i64 (addP nm rec st).2)]) [(0, .pointer _)] (fun i => rdisk r (N + 1) (addP nm rec st).1 :: cel w (wcells r nm n false) 55 :: A) (fun i => True) ⟨rfl, trivial⟩ ?_ ?_
    · -- up to the join
      refine WC.seq <| WC.region <| sv (vmI rfl) <| sv (veq rfl rfl) <| WL.nil <| WX.thenN <| ?_
      refine WC.ite rfl (fun h3 => ?_) (fun h3 => ?_)
      · -- then
        refine WC.plan (.bar [0, 1, 2, 3, 4, 5, 6, 7] 8 (.done [9])) rfl (by kernel_rfl) <| WPl.bar (trivial) <| dv (fun g => (vmP rfl)) <| dv (fun g => (vnil rfl)) <| dv (fun g => (vfld fl55f0 rfl)) <| dv (fun g => (vldc pl47 rfl)) <| dv (fun g => (vmP rfl)) <| dv (fun g => (vnil rfl)) <| dv (fun g => (vfld fl55f1 rfl)) <| dv (fun g => (vldc pl9 rfl)) <| WD.eff rfl <| cl (ref_sync (nm := nm) (by omega) hN) ct42 rfl fun _ _ => WL.nil <| WX.brT <| WPl.fin (trivial) <| dv (fun g => (vaI rfl)) <| WD.nil <| WX.mid (()) (trivial) ⟨by show Value.int _ _ = Value.int _ _; unfold addP; rw [if_pos h3], trivial⟩ ⟨rfl, trivial⟩ (fun w h => ?_)
        unfold addP; rw [if_pos h3]
        exact h.pk1.tail
      · -- else
        refine WC.skip <| WX.mid (()) (trivial) ⟨by show Value.int _ _ = Value.int _ _; unfold addP; rw [if_neg h3], trivial⟩ ⟨rfl, trivial⟩ (fun w h => ?_)
        unfold addP; rw [if_neg h3]
        exact h.pk1.tail
    · -- behind the join
      intro _ _ ρh
      refine WC.seq <| WC.region <| sv (vmP rfl) <| sv (vmI rfl) <| sv (veq rfl rfl) <| sv (vnil rfl) <| sv (vfld fl55f3 rfl) <| pm (fun _ h => h.pk1) <| stc (v := .bool _) pl4 sz4 rfl rfl rfl <| WL.nil <| WX.thenN <| WC.seq <| WC.seq <| WC.region <| sv (vmI rfl) <| sv (veq rfl rfl) <| WL.nil <| WX.thenN <| ?_
      refine WC.ite rfl (fun h4 => ?_) (fun h4 => ?_)
      · -- then
        refine WC.region <| sv (vmP rfl) <| sv (vnil rfl) <| sv (vfld fl55f2 rfl) <| sv (vldc pl3 rfl) <| sv (vadd rfl rfl (by omega)) <| sv (vnil rfl) <| sv (vfld fl55f2 rfl) <| stc (v := .int _ _) pl3 sz3 rfl rfl rfl <| WL.nil <| WX.thenN <| WC.seq <| WC.region <| sv (vmI rfl) <| sv (vaI rfl) <| WL.nil <| WX.thenN <| WC.ret <| WX.ret1 rfl (()) (trivial) rfl (fun w h => ?_)
        rw [if_pos h4]; exact h
      · -- else
        refine WC.skip <| WX.thenN <| WC.seq <| WC.region <| sv (vmI rfl) <| sv (vaI rfl) <| WL.nil <| WX.thenN <| WC.ret <| WX.ret1 rfl (()) (trivial) rfl (fun w h => ?_)
        rw [if_neg h4]; exact h
end Go.Proofs.Ytephlppgappcnaa
