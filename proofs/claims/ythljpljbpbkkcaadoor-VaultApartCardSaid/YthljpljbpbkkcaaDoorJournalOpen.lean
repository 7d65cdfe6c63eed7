/-
  Layer 3: a journal is opened.
-/
import Derived.Test.YthljpljbpbkkcaaDoorJournalSpecB
import Derived.Test.YthljpljbpbkkcaaDoorSlRows
set_option linter.unusedVariables false
set_option linter.unusedSimpArgs false
set_option maxRecDepth 4000
namespace Go.Proofs.YthljpljbpbkkcaaDoor
open Go.Sl Go.RowKit Go.Pack Go.Journal

/-- what is left behind the records is cut off -/
def openS (nm : ByteArray) (st : DSt) : DSt × Int :=
  if st.off then (st, 20) else if ¬ okName nm then (st, 51) else
  if (recsB (readS nm st).1).2 = [] then (st, 0) else cutS nm ((readS nm st).1.length - (recsB (readS nm st).1).2.length) st
theorem journal_open_nil {w0 : World} {A : List HProp} {nm : ByteArray} :
    Fun Tryd.prog w0 17 [.pointer none, .string nm] A (Ret w0 (fun _ : Unit => True) (fun _ => .tuple #[.pointer none, .slice none 0 0, .int .i64 3]) (fun _ => A)) := by
  refine Fun.enter Tryd.func17 rfl Tryd.ntmps17 rfl ?_
  refine WC.seq <| WC.region <| sv (vaP rfl) <| sv (vaS rfl) <| sv (vaI rfl) <| WL.nil <| WX.thenN <| WC.seq <| WC.seq <| WC.region <| sv (vmP rfl) <| sv (vpeqT Tryd.underlying31 rfl rfl) <| WL.nil <| WX.thenN <| ?_
  refine WC.tt rfl ?_
  exact WC.seq <| WC.region <| sv (vaP rfl) <| sv (vaS rfl) <| sv (vaI rfl) <| WL.nil <| WX.thenN <| WC.ret <| WX.thenR <| WX.ret3 rfl (()) (trivial) rfl (fun _ h => h)
theorem journal_add_nil {w0 : World} {A : List HProp} {b : Option Addr} {n c : Nat} :
    Fun Tryd.prog w0 43 [.pointer none, .slice b n c] A (Ret w0 (fun _ : Unit => True) (fun _ => .int .i64 3) (fun _ => A)) := by
  refine Fun.enter Tryd.func43 rfl Tryd.ntmps43 rfl ?_
  refine WC.seq <| WC.region <| sv (vaI rfl) <| WL.nil <| WX.thenN <| WC.seq <| WC.block <| WC.seq <| WC.region <| sv (vmP rfl) <| sv (vpeqT Tryd.underlying49 rfl rfl) <| sv (vaB rfl) <| WL.nil <| WX.thenN <| ?_
  refine WC.tt rfl ?_
  exact WC.seq <| WC.region <| sv (vaI rfl) <| WL.nil <| WX.thenN <| WC.ret <| WX.blockR <| WX.thenR <| WX.ret1 rfl (()) (trivial) rfl (fun _ h => h)
theorem journal_open_off {w0 : World} {A : List HProp} {d : Nat} {nm : ByteArray} {st : DSt} (ho : st.off = true) :
    Fun Tryd.prog w0 17 [.pointer (some ⟨d, 0, none⟩), .string nm] (pdisk d st :: A) (Ret w0 (fun _ : Unit => True) (fun _ => .tuple #[.pointer none, .slice none 0 0, .int .i64 20]) (fun _ => pdisk d st :: A)) := by
  refine Fun.enter Tryd.func17 rfl Tryd.ntmps17 rfl ?_
  refine WC.seq <| WC.region <| sv (vaP rfl) <| sv (vaS rfl) <| sv (vaI rfl) <| WL.nil <| WX.thenN <| WC.seq <| WC.seq <| WC.region <| sv (vmP rfl) <| sv (vpeqF Tryd.underlying31 rfl rfl) <| WL.nil <| WX.thenN <| ?_
  refine WC.ff rfl ?_
  refine WC.skip <| WX.thenN <| WC.seq <| WC.seq <| WC.region <| sv (vmP rfl) <| cl (disk_up_at ho) ct31 rfl fun _ _ => sv (vnot rfl) <| WL.nil <| WX.thenN <| ?_
  refine WC.tt rfl ?_
  exact WC.seq <| WC.region <| sv (vaP rfl) <| sv (vaS rfl) <| sv (vaI rfl) <| WL.nil <| WX.thenN <| WC.ret <| WX.thenR <| WX.ret3 rfl (()) (trivial) rfl (fun _ h => h)
theorem journal_open_name {w0 : World} {A : List HProp} {d : Nat} {nm : ByteArray} {st : DSt} (ho : st.off = false) (hn : ¬ okName nm) :
    Fun Tryd.prog w0 17 [.pointer (some ⟨d, 0, none⟩), .string nm] (pdisk d st :: A) (Ret w0 (fun _ : Unit => True) (fun _ => .tuple #[.pointer none, .slice none 0 0, .int .i64 51]) (fun _ => pdisk d st :: A)) := by
  have hd : decide (okName nm) = false := by simpa using hn
  refine Fun.enter Tryd.func17 rfl Tryd.ntmps17 rfl ?_
  refine WC.seq <| WC.region <| sv (vaP rfl) <| sv (vaS rfl) <| sv (vaI rfl) <| WL.nil <| WX.thenN <| WC.seq <| WC.seq <| WC.region <| sv (vmP rfl) <| sv (vpeqF Tryd.underlying31 rfl rfl) <| WL.nil <| WX.thenN <| ?_
  refine WC.ff rfl ?_
  refine WC.skip <| WX.thenN <| WC.seq <| WC.seq <| WC.region <| sv (vmP rfl) <| cl (disk_up_at ho) ct31 rfl fun _ _ => sv (vnot rfl) <| WL.nil <| WX.thenN <| ?_
  refine WC.ff rfl ?_
  refine WC.skip <| WX.thenN <| WC.seq <| WC.seq <| WC.region <| sv (vmT rfl) <| cl (hd ▸ journal_may) ct32 rfl fun _ _ => sv (vnot rfl) <| WL.nil <| WX.thenN <| ?_
  refine WC.tt rfl ?_
  exact WC.seq <| WC.region <| sv (vaP rfl) <| sv (vaS rfl) <| sv (vaI rfl) <| WL.nil <| WX.thenN <| WC.ret <| WX.thenR <| WX.ret3 rfl (()) (trivial) rfl (fun _ h => h)
theorem pdisk_len {w0 w : World} {d : Nat} {st : DSt} {A : List HProp} {nm : ByteArray} (h : Own w0 (pdisk d st :: A) w) : (readS nm st).1.length ≤ 16777216 := by
  obtain ⟨⟨m, l⟩, hr, _⟩ := pdisk_open h
  unfold readS
  split
  · simp
  · cases hf : st.files nm with
    | none => simp
    | some v =>
      obtain ⟨j, x, hj, rfl, rfl⟩ := hr.at hf
      exact (hr.ok x (List.mem_of_getElem? hj)).2
theorem open_row {w0 w : World} {R : List HProp} {b m : Nat} {rec : List UInt8} (hm : rec.length = m) (hx : m ≤ maxLen) (h : Own w0 (cel b (splice (List.replicate m (Value.int .u8 0)) 0 (u8s rec)) 5 :: R) w) : Own w0 (row (some ⟨b, 0, none⟩) m 1 5 (u8s rec) :: R) w := by
  have e : splice (List.replicate m (Value.int .u8 0)) 0 (u8s rec) = u8s rec := by subst hm; simp [splice]
  rw [e] at h
  exact h.cel_row (by simp [hm]) hx
structure OpI where
  done : List (Sla UInt8)
  rb : Option Addr
  rc : Nat
  rest : List UInt8
  qb : Option Addr
  qc : Nat
structure OpR (w0 : World) (B : List HProp) (b : List UInt8) (i : OpI) : Prop where
  rd : RdC w0 B i.rb (u8s i.rest)
  cap : i.rest.length ≤ i.rc
  recs : i.done.map (·.xs) ++ (recsB i.rest).1 = (recsB b).1
  left : (recsB i.rest).2 = (recsB b).2
  len : i.done.length + i.rest.length ≤ b.length
  caps : ∀ x ∈ i.done, x.xs.length ≤ x.cap
  qcap : i.done.length ≤ i.qc
theorem journal_open_ok {w0 : World} {A : List HProp} {d : Nat} {nm : ByteArray} {st st' : DSt} (hd : 0 ≤ st.deeds ∧ st.deeds + 1 ≤ 9223372036854775807) (ho : openS nm st = (st', 0)) :
    Fun Tryd.prog w0 17 [.pointer (some ⟨d, 0, none⟩), .string nm] (pdisk d st :: A)
      (Ret w0 (fun i : Nat × Option Addr × Nat × List (Sla UInt8) => i.2.2.2.map (·.xs) = (recsB (readS nm st).1).1 ∧ i.2.2.2.length ≤ i.2.2.1)
        (fun i => .tuple #[.pointer (some ⟨i.1, 0, none⟩), .slice i.2.1 i.2.2.2.length i.2.2.1, .int .i64 0])
        (fun i => cel i.1 (jcells d nm i.2.2.2.length false) 80 :: pdisk d st' :: row i.2.1 i.2.2.1 1 25 (bss i.2.2.2) :: rows 5 i.2.2.2 :: A)) := by
  refine Fun.known (fun w h => pdisk_len (nm := nm) h) fun hlen => ?_
  have h1 : st.off = false := by
    cases h : st.off with
    | false => rfl
    | true => unfold openS at ho; rw [if_pos h] at ho; cases ho
  have hno : ¬ st.off = true := by rw [h1]; decide
  have h2 : decide (okName nm) = true := by
    by_cases h : okName nm
    · simpa using h
    · unfold openS at ho; rw [if_neg hno, if_pos h] at ho; cases ho
  unfold openS at ho
  rw [if_neg hno, if_neg (by simpa using h2)] at ho
  obtain ⟨b, hb⟩ : ∃ b, b = (readS nm st).1 := ⟨_, rfl⟩
  obtain ⟨e, he⟩ : ∃ e, e = (readS nm st).2 := ⟨_, rfl⟩
  have hrd : readS nm st = (b, e) := by rw [hb, he]
  rw [← hb] at ho hlen ⊢
  refine Fun.enter Tryd.func17 rfl Tryd.ntmps17 rfl ?_
  refine WC.seq <| WC.region <| sv (vaP rfl) <| sv (vaS rfl) <| sv (vaI rfl) <| WL.nil <| WX.thenN <| WC.seq <| WC.seq <| WC.region <| sv (vmP rfl) <| sv (vpeqF Tryd.underlying31 rfl rfl) <| WL.nil <| WX.thenN <| ?_
  refine WC.ff rfl ?_
  refine WC.skip <| WX.thenN <| WC.seq <| WC.seq <| WC.region <| sv (vmP rfl) <| cl (disk_up_at h1) ct31 rfl fun _ _ => sv (vnot rfl) <| WL.nil <| WX.thenN <| ?_
  refine WC.ff rfl ?_
  refine WC.skip <| WX.thenN <| WC.seq <| WC.seq <| WC.region <| sv (vmT rfl) <| cl (h2 ▸ journal_may) ct32 rfl fun _ _ => sv (vnot rfl) <| WL.nil <| WX.thenN <| ?_
  refine WC.ff rfl ?_
  refine WC.skip <| WX.thenN <| WC.seq <| WC.region <| sv (vmP rfl) <| sv (vmT rfl) <| cl (disk_read_at hrd) ct33 rfl fun r4 hr4 => sv vmv <| sv (vex rfl rfl) <| sv (vex rfl rfl) <| sv (vaS rfl) <| sv (vaI rfl) <| WL.nil <| WX.thenN <| WC.seq <| WC.region <| sv (vmS rfl) <| sv (vaS rfl) <| WL.nil <| WX.thenN <| WC.seq <| WC.region <| sv (vaS rfl) <| WL.nil <| WX.thenN <| WC.seq <| WC.block <| ?_
  refine WC.loop (ι := OpI) (fun i => [(9, .slice i.rb i.rest.length i.rc), (10, .slice i.qb i.done.length i.qc)]) [(0, .pointer _), (1, .string _), (7, .slice _ _ _)] (fun i => row i.qb i.qc 1 25 (bss i.done) :: rows 5 i.done :: pdisk d st :: row r4.1 r4.2 1 5 (u8s b) :: A) (fun i => OpR w0 (row r4.1 r4.2 1 5 (u8s b) :: A) b i) (fun i => i.rest.length) (⟨[], r4.1, r4.2, b, none, 0⟩) (⟨reads, hr4, by simp, rfl, by simp, by simp, by simp⟩) ⟨rfl, rfl, trivial⟩ ⟨rfl, rfl, rfl, trivial⟩ (fun w h => Own.intro_row_nil (Own.intro_emp h.pk1)) ?_
  rintro ⟨done, rb, rc, rest, qb, qc⟩ ⟨u1, u2, u3, u4, u5, u6, u7⟩ ρh
  dsimp only at u1 u2 u3 u4 u5 u6 u7 ⊢
  rcases hn : nextB rest with _ | m
  · -- none
    have hrs := recsB_none hn
    rw [hrs] at u3 u4
    dsimp only at u3 u4
    rw [List.append_nil] at u3
    refine WC.block <| WC.seq <| WC.region <| sv (vmS rfl) <| cl (journal_next_none u1.cons.cons.cons rfl u2 (by omega) hn) ct34 rfl fun _ _ => sv vmv <| sv (vex rfl rfl) <| sv (vex rfl rfl) <| sv (vex rfl rfl) <| sv (vaS rfl) <| sv (vaS rfl) <| sv (vaB rfl) <| WL.nil <| WX.thenN <| WC.seq <| WC.seq <| WC.region <| sv (vmB rfl) <| sv (vnot rfl) <| WL.nil <| WX.thenN <| ?_
    refine WC.tt rfl ?_
    refine WC.exit <| WX.thenE <| WX.blockE rfl <| WX.thenE <| WX.blockH <| WX.thenN <| WC.seq <| WC.seq <| WC.region <| sv (vmS rfl) <| sv (vlen Tryd.underlying25 rfl) <| sv (vgt rfl rfl) <| WL.nil <| WX.thenN <| ?_
    refine WC.ite rfl (fun h5 => ?_) (fun h5 => ?_)
    · -- then
      rw [if_neg (by rw [← u4]; intro h; rw [h] at h5; simp at h5), ← u4] at ho
      refine WC.seq <| WC.region <| sv (vmP rfl) <| sv (vmT rfl) <| sv (vmS rfl) <| sv (vlen Tryd.underlying25 rfl) <| sv (vmS rfl) <| sv (vlen Tryd.underlying25 rfl) <| sv (vsub rfl rfl (by omega)) <| pm (fun _ h => h.pk2) <| cl (disk_cut_at (nm := nm) hd ho) ct35 rfl fun _ _ => sv (vaI rfl) <| WL.nil <| WX.thenN <| WC.seq <| WC.region <| sv (vmI rfl) <| sv (vne rfl rfl) <| WL.nil <| WX.thenN <| ?_
      refine WC.ite rfl (fun h6 => ?_) (fun h6 => ?_)
      · -- then
        exact absurd rfl h6
      · -- else
        exact WC.skip <| WX.thenN <| WC.seq <| WC.region <| sv (vmP rfl) <| sv (vmT rfl) <| sv (vmS rfl) <| sv (vlen Tryd.underlying50 rfl) <| sv (vbd (ps := [(0, .pointer _), (1, .string _), (2, .int _ _)]) (cs := [_, _, _, _]) bt80 zt80 rfl (by rfl)) <| bxc (v := .agg _) (cs := [.pointer _, .string _, .int _ _, .bool _]) rfl rfl fun b13 => sv (vmS rfl) <| sv (vaP rfl) <| sv (vaS rfl) <| sv (vaI rfl) <| WL.nil <| WX.thenN <| WC.ret <| WX.ret3 rfl ((b13, qb, qc, done)) (⟨u3, u7⟩) rfl (fun w h => h.pk4.tail)
    · -- else
      have hr0 : rest = [] := List.eq_nil_of_length_eq_zero (by omega)
      rw [if_pos (by rw [← u4]; exact hr0)] at ho
      obtain rfl : st = st' := by cases ho; rfl
      exact WC.skip <| WX.thenN <| WC.seq <| WC.region <| sv (vmP rfl) <| sv (vmT rfl) <| sv (vmS rfl) <| sv (vlen Tryd.underlying50 rfl) <| sv (vbd (ps := [(0, .pointer _), (1, .string _), (2, .int _ _)]) (cs := [_, _, _, _]) bt80 zt80 rfl (by rfl)) <| bxc (v := .agg _) (cs := [.pointer _, .string _, .int _ _, .bool _]) rfl rfl fun b13 => sv (vmS rfl) <| sv (vaP rfl) <| sv (vaS rfl) <| sv (vaI rfl) <| WL.nil <| WX.thenN <| WC.ret <| WX.ret3 rfl ((b13, qb, qc, done)) (⟨u3, u7⟩) rfl (fun w h => h.pk4.tail.pk3.pk1)
  · -- some
    have hle := nextB_le hn
    have hrs := recsB_some hn
    have hml : ((rest.drop 8).take m).length = m := by rw [List.length_take, List.length_drop]; omega
    have hdl : (rest.drop (8 + m)).length = rest.length - (8 + m) := List.length_drop
    refine WC.block <| WC.seq <| WC.region <| sv (vmS rfl) <| cl (journal_next_some u1.cons.cons.cons rfl u2 (by omega) hn) ct34 rfl fun _ _ => sv vmv <| sv (vex rfl rfl) <| sv (vex rfl rfl) <| sv (vex rfl rfl) <| sv (vaS rfl) <| sv (vaS rfl) <| sv (vaB rfl) <| WL.nil <| WX.thenN <| WC.seq <| WC.seq <| WC.region <| sv (vmB rfl) <| sv (vnot rfl) <| WL.nil <| WX.thenN <| ?_
    refine WC.ff rfl ?_
    refine WC.skip <| WX.thenN <| WC.seq <| WC.region <| sv (vmS rfl) <| sv (vlen Tryd.underlying25 rfl) <| mk Tryd.underlying25 zt5 rfl rfl (by omega) (by omega) (by omega) (by omega) fun b6 => ?_
    rw [madeB, show ((m : Int)).toNat * 1 = m by omega]
    refine sv (vaS rfl) <| WL.nil <| WX.thenN <| WC.seq <| WC.region <| sv (vmS rfl) <| sv (vmS rfl) <| cp sz5 Tryd.underlying25 rfl rfl (rdb u1 8 (8 + m) m (by omega)).cons.cons.cons.cons (by rw [u8s_length, hml]; omega) (u8s_one _) (by rw [u8s_length, hml]; simp) <| WL.nil <| WX.thenN <| WC.region <| sv (vmS rfl) <| sv (vmS rfl) <| pm (fun _ h => (open_row hml (by simp only [maxLen]; omega) h).pk1) <| ap1 (v := .slice _ _ _) Tryd.underlying50 zt25 rfl (fun _ => rfl) (fun _ => rfl) rfl rfl rfl (by rw [bss_length]) (by simp only [maxLen]; omega) (by omega) fun _ base8 c8 hc8 =>sv (vmS rfl) <| sv (vaS rfl) <| sv (vaS rfl) <| WL.nil <| WX.blockN <| WX.again (⟨done ++ [⟨some ⟨b6, 0, none⟩, (rest.drop 8).take m, m⟩], slB rb (8 + m) rc 1, rc - (8 + m), rest.drop (8 + m), base8, c8⟩) (⟨rdbL u1 (8 + m) rc u2, by dsimp only; omega, by dsimp only; rw [List.map_append, ← u3, hrs]; simp, by rw [← u4, hrs], by simp only [List.length_append, List.length_cons, List.length_nil]; omega, fun x hx => by rcases List.mem_append.1 hx with hx | hx; exact u6 x hx; simp only [List.mem_singleton] at hx; subst hx; dsimp only; omega, by rw [List.length_append]; exact hc8⟩) (by dsimp only; omega) ⟨by show Value.slice _ _ _ = Value.slice _ _ _; rfl, by show Value.slice _ _ _ = Value.slice _ _ _; rw [List.length_append]; rfl, trivial⟩ ⟨rfl, rfl, rfl, trivial⟩ (fun w h => ?_)
    rw [bss_snoc]
    dsimp only
    rw [hml]
    exact (rows_snoc (y := ⟨some ⟨b6, 0, none⟩, (rest.drop 8).take m, m⟩) (h.ix [1, 2, 0, 3, 4])).ix [1, 0, 2, 3]
theorem journal_open_bad {w0 : World} {A : List HProp} {d : Nat} {nm : ByteArray} {st st' : DSt} {er : Int} (hd : 0 ≤ st.deeds ∧ st.deeds + 1 ≤ 9223372036854775807) (hup : st.off = false) (hnm : okName nm) (hne : er ≠ 0) (ho : openS nm st = (st', er)) :
    Fun Tryd.prog w0 17 [.pointer (some ⟨d, 0, none⟩), .string nm] (pdisk d st :: A)
      (Ret w0 (fun _ : Unit => True) (fun _ => .tuple #[.pointer none, .slice none 0 0, .int .i64 er]) (fun _ => pdisk d st' :: A)) := by
  refine Fun.known (fun w h => pdisk_len (nm := nm) h) fun hlen => ?_
  have h1 := hup
  have hno : ¬ st.off = true := by rw [h1]; decide
  have h2 : decide (okName nm) = true := by simpa using hnm
  unfold openS at ho
  rw [if_neg hno, if_neg (by simpa using h2)] at ho
  obtain ⟨b, hb⟩ : ∃ b, b = (readS nm st).1 := ⟨_, rfl⟩
  obtain ⟨e, he⟩ : ∃ e, e = (readS nm st).2 := ⟨_, rfl⟩
  have hrd : readS nm st = (b, e) := by rw [hb, he]
  rw [← hb] at ho hlen
  refine Fun.enter Tryd.func17 rfl Tryd.ntmps17 rfl ?_
  refine WC.seq <| WC.region <| sv (vaP rfl) <| sv (vaS rfl) <| sv (vaI rfl) <| WL.nil <| WX.thenN <| WC.seq <| WC.seq <| WC.region <| sv (vmP rfl) <| sv (vpeqF Tryd.underlying31 rfl rfl) <| WL.nil <| WX.thenN <| ?_
  refine WC.ff rfl ?_
  refine WC.skip <| WX.thenN <| WC.seq <| WC.seq <| WC.region <| sv (vmP rfl) <| cl (disk_up_at h1) ct31 rfl fun _ _ => sv (vnot rfl) <| WL.nil <| WX.thenN <| ?_
  refine WC.ff rfl ?_
  refine WC.skip <| WX.thenN <| WC.seq <| WC.seq <| WC.region <| sv (vmT rfl) <| cl (h2 ▸ journal_may) ct32 rfl fun _ _ => sv (vnot rfl) <| WL.nil <| WX.thenN <| ?_
  refine WC.ff rfl ?_
  refine WC.skip <| WX.thenN <| WC.seq <| WC.region <| sv (vmP rfl) <| sv (vmT rfl) <| cl (disk_read_at hrd) ct33 rfl fun r4 hr4 => sv vmv <| sv (vex rfl rfl) <| sv (vex rfl rfl) <| sv (vaS rfl) <| sv (vaI rfl) <| WL.nil <| WX.thenN <| WC.seq <| WC.region <| sv (vmS rfl) <| sv (vaS rfl) <| WL.nil <| WX.thenN <| WC.seq <| WC.region <| sv (vaS rfl) <| WL.nil <| WX.thenN <| WC.seq <| WC.block <| ?_
  refine WC.loop (ι := OpI) (fun i => [(9, .slice i.rb i.rest.length i.rc), (10, .slice i.qb i.done.length i.qc)]) [(0, .pointer _), (1, .string _), (7, .slice _ _ _)] (fun i => row i.qb i.qc 1 25 (bss i.done) :: rows 5 i.done :: pdisk d st :: row r4.1 r4.2 1 5 (u8s b) :: A) (fun i => OpR w0 (row r4.1 r4.2 1 5 (u8s b) :: A) b i) (fun i => i.rest.length) (⟨[], r4.1, r4.2, b, none, 0⟩) (⟨reads, hr4, by simp, rfl, by simp, by simp, by simp⟩) ⟨rfl, rfl, trivial⟩ ⟨rfl, rfl, rfl, trivial⟩ (fun w h => Own.intro_row_nil (Own.intro_emp h.pk1)) ?_
  rintro ⟨done, rb, rc, rest, qb, qc⟩ ⟨u1, u2, u3, u4, u5, u6, u7⟩ ρh
  dsimp only at u1 u2 u3 u4 u5 u6 u7 ⊢
  rcases hn : nextB rest with _ | m
  · -- none
    have hrs := recsB_none hn
    rw [hrs] at u3 u4
    dsimp only at u3 u4
    rw [List.append_nil] at u3
    refine WC.block <| WC.seq <| WC.region <| sv (vmS rfl) <| cl (journal_next_none u1.cons.cons.cons rfl u2 (by omega) hn) ct34 rfl fun _ _ => sv vmv <| sv (vex rfl rfl) <| sv (vex rfl rfl) <| sv (vex rfl rfl) <| sv (vaS rfl) <| sv (vaS rfl) <| sv (vaB rfl) <| WL.nil <| WX.thenN <| WC.seq <| WC.seq <| WC.region <| sv (vmB rfl) <| sv (vnot rfl) <| WL.nil <| WX.thenN <| ?_
    refine WC.tt rfl ?_
    refine WC.exit <| WX.thenE <| WX.blockE rfl <| WX.thenE <| WX.blockH <| WX.thenN <| WC.seq <| WC.seq <| WC.region <| sv (vmS rfl) <| sv (vlen Tryd.underlying25 rfl) <| sv (vgt rfl rfl) <| WL.nil <| WX.thenN <| ?_
    refine WC.ite rfl (fun h5 => ?_) (fun h5 => ?_)
    · -- then
      rw [if_neg (by rw [← u4]; intro h; rw [h] at h5; simp at h5), ← u4] at ho
      refine WC.seq <| WC.region <| sv (vmP rfl) <| sv (vmT rfl) <| sv (vmS rfl) <| sv (vlen Tryd.underlying25 rfl) <| sv (vmS rfl) <| sv (vlen Tryd.underlying25 rfl) <| sv (vsub rfl rfl (by omega)) <| pm (fun _ h => h.pk2) <| cl (disk_cut_at (nm := nm) hd ho) ct35 rfl fun _ _ => sv (vaI rfl) <| WL.nil <| WX.thenN <| WC.seq <| WC.region <| sv (vmI rfl) <| sv (vne rfl rfl) <| WL.nil <| WX.thenN <| ?_
      refine WC.ite rfl (fun h6 => ?_) (fun h6 => ?_)
      · -- then
        exact WC.seq <| WC.region <| sv (vmI rfl) <| sv (vaP rfl) <| sv (vaS rfl) <| sv (vaI rfl) <| WL.nil <| WX.thenN <| WC.ret <| WX.thenR <| WX.ret3 rfl (()) (trivial) rfl (fun w h => h.pk1.tail.pk1.tail.pk1.tail)
      · -- else
        exact absurd hne h6
    · -- else
      exact absurd (by rw [if_pos (show (recsB b).2 = [] by rw [← u4]; exact List.eq_nil_of_length_eq_zero (by omega))] at ho; cases ho; rfl) hne
  · -- some
    have hle := nextB_le hn
    have hrs := recsB_some hn
    have hml : ((rest.drop 8).take m).length = m := by rw [List.length_take, List.length_drop]; omega
    have hdl : (rest.drop (8 + m)).length = rest.length - (8 + m) := List.length_drop
    refine WC.block <| WC.seq <| WC.region <| sv (vmS rfl) <| cl (journal_next_some u1.cons.cons.cons rfl u2 (by omega) hn) ct34 rfl fun _ _ => sv vmv <| sv (vex rfl rfl) <| sv (vex rfl rfl) <| sv (vex rfl rfl) <| sv (vaS rfl) <| sv (vaS rfl) <| sv (vaB rfl) <| WL.nil <| WX.thenN <| WC.seq <| WC.seq <| WC.region <| sv (vmB rfl) <| sv (vnot rfl) <| WL.nil <| WX.thenN <| ?_
    refine WC.ff rfl ?_
    refine WC.skip <| WX.thenN <| WC.seq <| WC.region <| sv (vmS rfl) <| sv (vlen Tryd.underlying25 rfl) <| mk Tryd.underlying25 zt5 rfl rfl (by omega) (by omega) (by omega) (by omega) fun b6 => ?_
    rw [madeB, show ((m : Int)).toNat * 1 = m by omega]
    refine sv (vaS rfl) <| WL.nil <| WX.thenN <| WC.seq <| WC.region <| sv (vmS rfl) <| sv (vmS rfl) <| cp sz5 Tryd.underlying25 rfl rfl (rdb u1 8 (8 + m) m (by omega)).cons.cons.cons.cons (by rw [u8s_length, hml]; omega) (u8s_one _) (by rw [u8s_length, hml]; simp) <| WL.nil <| WX.thenN <| WC.region <| sv (vmS rfl) <| sv (vmS rfl) <| pm (fun _ h => (open_row hml (by simp only [maxLen]; omega) h).pk1) <| ap1 (v := .slice _ _ _) Tryd.underlying50 zt25 rfl (fun _ => rfl) (fun _ => rfl) rfl rfl rfl (by rw [bss_length]) (by simp only [maxLen]; omega) (by omega) fun _ base8 c8 hc8 =>sv (vmS rfl) <| sv (vaS rfl) <| sv (vaS rfl) <| WL.nil <| WX.blockN <| WX.again (⟨done ++ [⟨some ⟨b6, 0, none⟩, (rest.drop 8).take m, m⟩], slB rb (8 + m) rc 1, rc - (8 + m), rest.drop (8 + m), base8, c8⟩) (⟨rdbL u1 (8 + m) rc u2, by dsimp only; omega, by dsimp only; rw [List.map_append, ← u3, hrs]; simp, by rw [← u4, hrs], by simp only [List.length_append, List.length_cons, List.length_nil]; omega, fun x hx => by rcases List.mem_append.1 hx with hx | hx; exact u6 x hx; simp only [List.mem_singleton] at hx; subst hx; dsimp only; omega, by rw [List.length_append]; exact hc8⟩) (by dsimp only; omega) ⟨by show Value.slice _ _ _ = Value.slice _ _ _; rfl, by show Value.slice _ _ _ = Value.slice _ _ _; rw [List.length_append]; rfl, trivial⟩ ⟨rfl, rfl, rfl, trivial⟩ (fun w h => ?_)
    rw [bss_snoc]
    dsimp only
    rw [hml]
    exact (rows_snoc (y := ⟨some ⟨b6, 0, none⟩, (rest.drop 8).take m, m⟩) (h.ix [1, 2, 0, 3, 4])).ix [1, 0, 2, 3]
end Go.Proofs.YthljpljbpbkkcaaDoor
