/-
  Layer 3: a journal does, call by call, just what the document says.
-/
import Derived.Test.YtephlppgappcnaaJournalDoesA
set_option linter.unusedVariables false
set_option linter.unusedSimpArgs false
set_option maxRecDepth 4000
namespace Go.Proofs.Ytephlppgappcnaa
open Go.Sl Go.RowKit Go.Pack Go.Journal

abbrev OpV := Int × Sla UInt8 × Int × Int × Unit
abbrev opc (p : OpV) : List Value := [.int .i64 p.1, .slice p.2.1.base p.2.1.xs.length p.2.1.cap, .int .i64 p.2.2.1, .int .i64 p.2.2.2.1]
theorem opc_len (l : List OpV) : ∀ x ∈ l, (opc x).length = 4 := fun _ _ => rfl
theorem rd_some {w0 : World} {base : Option Addr} {vs : List Value} (h : Rd w0 base vs) (hp : 0 < vs.length) : base.isSome = true := by
  obtain ⟨a, ha, _⟩ := h 0 _ (List.getElem?_eq_getElem hp)
  rw [ha]; rfl
theorem rdisk_new {w0 w : World} {A : List HProp} {r : Nat} (h : Own w0 (cel r [.slice none 0 0, .bool false, .int .i64 0, .int .i64 0, .int .i64 0] 50 :: A) w) : Own w0 (rdisk r 0 newD :: A) w :=
  rdisk_mk (l := []) (base := none) (c := 0) RRep.new ⟨Nat.le_refl _, Nat.le_refl _⟩ ((Own.intro_row_nil (Own.intro_emp h)).ix [2, 0, 1])
structure JdI where
  k : Nat
  jp : Nat
  wp : Nat
  N : Nat
  s : JS
structure JdR (m : Nat) (i : JdI) : Prop where
  k : i.k ≤ m
  N : i.N ≤ i.k
  deeds : 0 ≤ i.s.st.deeds ∧ i.s.st.deeds ≤ 2 * i.k
  n : 0 ≤ i.s.n ∧ i.s.n ≤ 16777216 + i.k
theorem walk_does {w0 : World} {A : List HProp} {ob : Option Addr} {oc : Nat} {l : List OpV} (ho : Rd w0 ob (l.flatMap opc)) (hx : ∀ x ∈ l, Rd w0 x.2.1.base (u8s x.2.1.xs) ∧ x.2.2.1 ≤ 9223372036854775807) :
    Fun Try.prog w0 7 [.slice ob l.length oc] A (Ret w0 (fun _ : Unit => True) (fun _ => .bool true) (fun _ => A)) := by
  have hfl := flat_len (opc_len l)
  have hRops : Reads w0 A ob (l.flatMap opc) := ⟨RdC.old ho⟩
  refine Fun.enter Try.func7 rfl Try.ntmps7 rfl ?_
  refine WC.seq <| WC.region <| sv (vaB rfl) <| WL.nil <| WX.thenN <| WC.seq <| WC.seq <| WC.region <| sv (vmS rfl) <| sv (vlen Try.underlying44 rfl) <| sv (vgt rfl rfl) <| WL.nil <| WX.thenN <| ?_
  refine WC.ite rfl (fun h1 => ?_) (fun h1 => ?_)
  · -- then
    exact WC.seq <| WC.region <| sv (vaB rfl) <| WL.nil <| WX.thenN <| WC.ret <| WX.thenR <| WX.ret1 rfl (()) (trivial) rfl (fun _ h => h)
  · -- else
    refine WC.skip <| WX.thenN <| WC.seq <| WC.seq <| WC.region <| sv (vaI rfl) <| WL.nil <| WX.thenN <| WC.block <| ?_
    refine WC.loop (ι := Nat) (fun i => [(3, .int .i64 i)]) [(0, .slice _ _ _)] (fun i => A) (fun i => i ≤ l.length ∧ ∀ (k : Nat) (x : OpV), k < i → l[k]? = some x → x.2.1.xs.length ≤ 1024) (fun i => l.length - i) (0) (⟨by omega, fun k x h => by omega⟩) ⟨rfl, trivial⟩ ⟨rfl, trivial⟩ (fun _ h => h) ?_
    intro i hi ρh
    refine WC.seq <| WC.seq <| WC.region <| sv (vmI rfl) <| sv (vmS rfl) <| sv (vlen Try.underlying44 rfl) <| sv (vlt rfl rfl) <| WL.nil <| WX.thenN <| ?_
    refine WC.ite rfl (fun h2 => ?_) (fun h2 => ?_)
    · -- then
      have hil : i < l.length := by omega
      have hpos : 0 < (l.flatMap opc).length := by omega
      have hb := rd_some ho hpos
      have hf1 : (l.flatMap opc)[((i : Int)).toNat * 4 + 1]? = some (.slice (l[i]).2.1.base (l[i]).2.1.xs.length (l[i]).2.1.cap) := by rw [Int.toNat_natCast, flat_at (opc_len l) hil (by omega)]; rfl
      refine WC.skip <| WX.thenN <| WC.seq <| WC.block <| WC.seq <| WC.region <| sv (vmS rfl) <| sv (vmI rfl) <| sv (vix Try.underlying44 sz46 rfl rfl (by omega) (by omega) reads (hpos)) <| sv (vfldr (hb) fl46f1 rfl) <| sv (vldo pl22 rfl reads (hf1)) <| sv (vlen Try.underlying22 rfl) <| sv (vgt rfl rfl) <| WL.nil <| WX.thenN <| ?_
      refine WC.ite rfl (fun h3 => ?_) (fun h3 => ?_)
      · -- then
        exact WC.seq <| WC.region <| sv (vaB rfl) <| WL.nil <| WX.thenN <| WC.ret <| WX.blockR <| WX.thenR <| WX.thenR <| WX.blockR <| WX.thenR <| WX.ret1 rfl (()) (trivial) rfl (fun _ h => h)
      · -- else
        refine WC.skip <| WX.blockN <| WX.thenN <| WC.region <| sv (vmI rfl) <| sv (vadd rfl rfl (by omega)) <| sv (vaI rfl) <| WL.nil <| WX.again (i + 1) (⟨by omega, fun k x hk hx => by rcases Nat.lt_succ_iff_lt_or_eq.1 hk with h | rfl; exact hi.2 k x h hx; rw [List.getElem?_eq_getElem hil] at hx; cases hx; omega⟩) (by omega) ⟨rfl, trivial⟩ ⟨rfl, trivial⟩ (fun _ h => h)
    · -- else
      have hsm : ∀ x ∈ l, x.2.1.xs.length ≤ 1024 := fun x hx => by obtain ⟨k, hk⟩ := List.mem_iff_getElem?.1 hx; exact hi.2 k x (by have := (List.getElem?_eq_some_iff.1 hk).1; omega) hk
      have hll : l.length ≤ 150 := by omega
      have hnew : (recsB (readS nmJ newD).1).1 = [] := by rw [Fl.new.read, recsB_nil]
      refine WC.exit <| WX.thenE <| WX.thenE <| WX.blockH <| WX.thenN <| WC.seq <| WC.region <| cl (disk_new) ct8 rfl fun d _ => sv (vaP rfl) <| WL.nil <| WX.thenN <| WC.seq <| WC.region <| sv (vbd (ps := []) (cs := [_, _, _, _, _]) bt50 zt50 rfl (by rfl)) <| bxc (v := .agg _) (cs := [.slice _ _ _, .bool _, .int _ _, .int _ _, .int _ _]) rfl rfl fun b6 => sv (vaP rfl) <| WL.nil <| WX.thenN <| WC.seq <| WC.region <| sv (vmP rfl) <| pm (fun _ h => h.pk1) <| cl (journal_open_at (nm := nmJ) (by decide) open_new hnew) ct10 rfl fun i7 hi7 => ?_
      obtain ⟨u7, v7⟩ := hi7
      have len7 : i7.2.2.2.length = 0 := by have := congrArg List.length u7; simpa using this
      refine sv vmv <| sv (vex rfl rfl) <| sv (vex rfl rfl) <| sv (vex rfl rfl) <| sv (vaP rfl) <| sv (vaS rfl) <| sv (vaI rfl) <| WL.nil <| WX.thenN <| WC.seq <| WC.region <| sv (vmP rfl) <| pm (fun _ h => (rdisk_new (h.pk4)).pk1.pk1) <| cl (ref_open_ok (nm := nmJ) (by decide) (by decide) open_new hnew (by decide)) ct20 rfl fun i8 hi8 => ?_
      obtain ⟨u8, v8⟩ := hi8
      have len8 : i8.2.2.2.length = 0 := by have := congrArg List.length u8; simpa using this
      refine sv vmv <| sv (vex rfl rfl) <| sv (vex rfl rfl) <| sv (vex rfl rfl) <| sv (vaP rfl) <| sv (vaS rfl) <| sv (vaI rfl) <| WL.nil <| WX.thenN <| WC.seq <| ?_
      refine WC.cut0 [(65, .bool false)] [(0, .slice _ _ _), (4, .pointer _), (5, .pointer _), (6, .pointer _), (9, .pointer _)] (cel i8.1 (wcells b6 nmJ i8.2.2.2.length false) 55 :: rdisk b6 0 newD :: row i8.2.1 i8.2.2.1 1 22 (bss i8.2.2.2) :: rows 5 i8.2.2.2 :: cel i7.1 (jcells d nmJ i7.2.2.2.length false) 70 :: pdisk d newD :: row i7.2.1 i7.2.2.1 1 22 (bss i7.2.2.2) :: rows 5 i7.2.2.2 :: A) ⟨rfl, rfl, rfl, rfl, rfl, trivial⟩ ?_ fun ρh => ?_
      · -- law.go:76
        exact WC.region <| sv (vmP rfl) <| sv (vpeqF Try.underlying27 rfl rfl) <| sv (vmB rfl) <| svg rfl (vmI rfl) <| svg rfl (vmI rfl) <| svg rfl (vF (vne rfl rfl) (by omega)) <| sv (vpkf rfl) <| sv (vmB rfl) <| svg rfl (vmS rfl) <| svg rfl (vmS rfl) <| gy rfl <| cl (law3_same_true i7.2.2.2 i8.2.2.2 reads (fun x hx => RdC.of_rows (e := 5) (by simp) hx) reads (fun x hx => RdC.of_rows (e := 5) (by simp) hx) rfl rfl (by omega) (by rw [u7, u8])) ct11 rfl fun _ _ => svg rfl (vnot rfl) <| sv (vpkf rfl) <| WL.nil <| WX.mid () trivial ⟨rfl, trivial⟩ ⟨rfl, rfl, rfl, rfl, rfl, trivial⟩ (fun _ h => h)
      refine WC.ff rfl ?_
      refine WC.skip <| WX.thenN <| WC.seq <| WC.seq <| WC.region <| sv (vaI rfl) <| WL.nil <| WX.thenN <| WC.block <| ?_
      refine WC.loop (ι := JdI) (fun i => [(6, .pointer (some ⟨i.jp, 0, none⟩)), (9, .pointer (some ⟨i.wp, 0, none⟩)), (12, .int .i64 i.k)]) [(0, .slice _ _ _), (4, .pointer _), (5, .pointer _)] (fun i => pdisk d i.s.st :: rdisk b6 i.N i.s.st :: cel i.jp (jcells d nmJ i.s.n i.s.sick) 70 :: cel i.wp (wcells b6 nmJ i.s.n i.s.sick) 55 :: A) (fun i => JdR l.length i) (fun i => l.length - i.k) (⟨0, i7.1, i8.1, 0, ⟨newD, 0, false⟩⟩) (⟨by simp, by simp, by simp [newD], by simp⟩) ⟨rfl, rfl, rfl, trivial⟩ ⟨rfl, rfl, rfl, trivial⟩ (fun w h => by rw [len7, len8] at h; exact (h.ix [5, 1, 4, 0, 2, 3, 6, 7]).pk4.tail.pk4.tail.pk4.tail.pk4.tail) ?_
      rintro ⟨k, jp, wp, N, s⟩ ⟨v1, v2, v3, v4⟩ ρh
      dsimp only at v1 v2 v3 v4 ⊢
      refine WC.seq <| WC.seq <| WC.region <| sv (vmI rfl) <| sv (vmS rfl) <| sv (vlen Try.underlying44 rfl) <| sv (vlt rfl rfl) <| WL.nil <| WX.thenN <| ?_
      refine WC.ite rfl (fun h5 => ?_) (fun h5 => ?_)
      · -- then
        have hkl : k < l.length := by omega
        have hpos : 0 < (l.flatMap opc).length := by omega
        have hb := rd_some ho hpos
        obtain ⟨o, hoe⟩ : ∃ o, o = l[k] := ⟨_, rfl⟩
        have hol : o ∈ l := by rw [hoe]; exact List.getElem_mem hkl
        have hag : ((l.flatMap opc).drop (((k : Int)).toNat * 4)).take 4 = opc o := by rw [Int.toNat_natCast, flat_take (opc_len l) hkl, hoe]
        have hone : ∀ v ∈ opc o, v.oneCell' = true := by intro v hv; simp only [opc, List.mem_cons, List.not_mem_nil, or_false] at hv; rcases hv with rfl | rfl | rfl | rfl <;> rfl
        have hBr := (hx o hol).1
        have hBl := hsm o hol
        refine WC.skip <| WX.thenN <| WC.seq <| WC.block <| WC.seq <| WC.region <| sv (vmS rfl) <| sv (vmI rfl) <| sv (vix Try.underlying44 sz46 rfl rfl (by omega) (by omega) reads (hpos)) <| sv (vlda ag46 sz46 rfl reads (hag) rfl (by decide)) <| alz (cs := [.int .i64 0, .slice none 0 0, .int .i64 0, .int .i64 0]) zt46 (by rfl) fun b13 => stA sz46 rfl rfl rfl rfl (hone) <| WL.nil <| WX.thenN <| ?_
        refine WC.cutv (ι := Nat × Nat × Nat × JS) (fun i => [(6, .pointer (some ⟨i.1, 0, none⟩)), (9, .pointer (some ⟨i.2.1, 0, none⟩))]) [(0, .slice _ _ _), (4, .pointer _), (5, .pointer _), (12, .int _ _)] (fun i => pdisk d i.2.2.2.st :: rdisk b6 i.2.2.1 i.2.2.2.st :: cel i.1 (jcells d nmJ i.2.2.2.n i.2.2.2.sick) 70 :: cel i.2.1 (wcells b6 nmJ i.2.2.2.n i.2.2.2.sick) 55 :: A) (fun i => JdR (k + 1) ⟨k + 1, i.1, i.2.1, i.2.2.1, i.2.2.2⟩) ⟨rfl, rfl, rfl, rfl, trivial⟩ ?_ ?_
        · -- up to the join
          refine WC.seq <| WC.region <| sv (vfld fl46f0 rfl) <| sv (vldc pl3 rfl) <| WL.nil <| WX.thenN <| WC.block <| WC.seq <| WC.region <| sv (veq rfl rfl) <| sv (vaB rfl) <| WL.nil <| WX.thenN <| ?_
          refine WC.ite rfl (fun h6 => ?_) (fun h6 => ?_)
          · -- then
            have hTb := addT_bounds nmJ o.2.1.xs s
            refine WC.seq <| WC.region <| bsl0 Try.underlying22 zt5 fun b16 => sv (vfld fl46f1 rfl) <| sv (vldc pl22 rfl) <| apb Try.underlying22 zt5 rfl rfl rfl rfl (RdC.old hBr) (by omega) fun base18 c18 hc18 =>?_
            rw [List.nil_append, Nat.zero_add]
            refine sv (vaS rfl) <| WL.nil <| WX.thenN <| WC.seq <| WC.region <| sv (vmP rfl) <| sv (vmS rfl) <| pm (fun _ h => h.pk4.pk3.pk1) <| cl (journal_add_T (nm := nmJ) (rec := o.2.1.xs) (s := s) reads rfl (by omega) nmJ_len (by omega) (by omega)) ct12 rfl fun _ _ => sv (vaI rfl) <| WL.nil <| WX.thenN <| ?_
            refine WC.cut0 [(109, .bool false)] [(0, .slice _ _ _), (4, .pointer _), (5, .pointer _), (6, .pointer _), (9, .pointer _), (12, .int _ _)] (pdisk d (addT nmJ o.2.1.xs s).1.st :: rdisk b6 (N + 1) (addT nmJ o.2.1.xs s).1.st :: cel jp (jcells d nmJ (addT nmJ o.2.1.xs s).1.n (addT nmJ o.2.1.xs s).1.sick) 70 :: cel wp (wcells b6 nmJ (addT nmJ o.2.1.xs s).1.n (addT nmJ o.2.1.xs s).1.sick) 55 :: A) ⟨rfl, rfl, rfl, rfl, rfl, rfl, trivial⟩ ?_ fun ρh => ?_
            · -- law.go:85
              exact WC.plan (.pre [1, 2, 3] (.one [0] 4 (.done [5, 6, 7, 8, 9, 10, 11, 12, 13, 14, 15, 16, 17, 18, 19, 20, 21, 22]))) rfl (by kernel_rfl) <| WPl.pre (trivial) <| dv (fun g => (vmP rfl)) <| dv (fun g => (vfld fl46f1 rfl)) <| dv (fun g => (vldc pl22 rfl)) <| WD.nil <| WPl.one (fun g => g ++ cel jp (jcells d nmJ (addT nmJ o.2.1.xs s).1.n (addT nmJ o.2.1.xs s).1.sick) 70 :: pdisk d (addT nmJ o.2.1.xs s).1.st :: row base18 c18 1 5 (u8s o.2.1.xs) :: cel b13 (opc o) 46 :: A) ([cel wp (wcells b6 nmJ s.n s.sick) 55, rdisk b6 N s.st]) (fun _ => trivial) ((own_perm (ix_perm _ [5, 4, 0, 1, 2, 3] (by decide) rfl))) <| dv (fun g => (vmI rfl)) <| WD.eff rfl <| pm (fun _ h => h.pk5.pk5.pk1) <| cl (ref_jadd_T (nm := nmJ) (rec := o.2.1.xs) (s := s) (by omega) (RdC.old hBr) rfl (by omega) (by omega) (by omega)) ct21 rfl fun _ _ => WL.nil <| WX.br <| WPl.fin (⟨[_, _], rfl⟩) <| dv (fun g => (vF (vne rfl rfl) (fun h => h rfl))) <| dv (fun g => (vmB rfl)) <| dvg rfl (fun g => (vmS rfl)) <| dvg rfl (fun g => (vstr Try.underlying22 Try.underlying5 Try.underlying9 rfl reads rfl)) <| dvg rfl (fun g => (vfld fl46f1 rfl)) <| dvg rfl (fun g => (vldc pl22 rfl)) <| dvg rfl (fun g => (vstr Try.underlying22 Try.underlying5 Try.underlying9 rfl (RdC.old hBr) rfl)) <| dvg rfl (fun g => (vF (vnes rfl rfl) (fun h => h rfl))) <| dv (fun g => (vpkf rfl)) <| dv (fun g => (vmB rfl)) <| dvg rfl (fun g => (vmP rfl)) <| dclg rfl (fun g => Fun.quiet (journal_len_at)) ct16 rfl <| dvg rfl (fun g => (vmP rfl)) <| dvg rfl (fun g => (vnil rfl)) <| dvg rfl (fun g => (vfld fl55f2 rfl)) <| dvg rfl (fun g => (vldc pl3 rfl)) <| dvg rfl (fun g => (vF (vne rfl rfl) (fun h => h rfl))) <| dv (fun g => (vpkf rfl)) <| WD.nil <| WX.mid () trivial ⟨rfl, trivial⟩ ⟨rfl, rfl, rfl, rfl, rfl, rfl, trivial⟩ (fun w h => (h.ix [3, 1, 2, 0, 4, 5]).pk4.tail.pk4.tail)
            refine WC.ff rfl ?_
            exact WC.skip <| WX.blockN <| WX.mid ((jp, wp, N + 1, (addT nmJ o.2.1.xs s).1)) (⟨Nat.le_refl _, by dsimp only; omega, by dsimp only; omega, by dsimp only; omega⟩) ⟨rfl, rfl, trivial⟩ ⟨rfl, rfl, rfl, rfl, trivial⟩ (fun _ h => h)
          · -- else
            refine WC.seq <| WC.region <| sv (veq rfl rfl) <| sv (vaB rfl) <| WL.nil <| WX.thenN <| ?_
            refine WC.ite rfl (fun h8 => ?_) (fun h8 => ?_)
            · -- then
              refine WC.known (fun w h => pdisk_len (nm := nmJ) h.tail) fun hblen => ?_
              have hod := openS_deeds nmJ s.st
              have hrl := flat_length (recsB (readS nmJ s.st).1).1
              have hwl := congrArg List.length (recsB_whole (readS nmJ s.st).1)
              rw [List.length_append] at hwl
              rcases hop : openS nmJ s.st with ⟨st', e⟩
              rw [hop] at hod
              dsimp only at hod
              by_cases he : e = 0
              · -- op
                subst he
                refine WC.seq <| WC.region <| sv (vmP rfl) <| pm (fun _ h => h.pk1) <| cl (journal_open_at (nm := nmJ) (by omega) hop rfl) ct10 rfl fun i27 hi27 => ?_
                obtain ⟨u27, v27⟩ := hi27
                have len27 : i27.2.2.2.length = (recsB (readS nmJ s.st).1).1.length := by have := congrArg List.length u27; simpa using this
                refine sv vmv <| sv (vex rfl rfl) <| sv (vex rfl rfl) <| sv (vex rfl rfl) <| sv (vaP rfl) <| sv (vaS rfl) <| sv (vaI rfl) <| WL.nil <| WX.thenN <| WC.seq <| WC.region <| sv (vmP rfl) <| pm (fun _ h => h.pk5) <| cl (ref_open_ok (nm := nmJ) (by omega) (by omega) hop rfl hblen) ct20 rfl fun i28 hi28 => ?_
                obtain ⟨u28, v28⟩ := hi28
                have len28 : i28.2.2.2.length = i27.2.2.2.length := by have := congrArg List.length u28; rw [len27]; simpa using this
                refine sv vmv <| sv (vex rfl rfl) <| sv (vex rfl rfl) <| sv (vex rfl rfl) <| sv (vaP rfl) <| sv (vaS rfl) <| sv (vaI rfl) <| WL.nil <| WX.thenN <| WC.seq <| ?_
                refine WC.cut0 [(139, .bool false)] [(0, .slice _ _ _), (4, .pointer _), (5, .pointer _), (6, .pointer _), (9, .pointer _), (12, .int _ _), (16, .pointer _), (19, .pointer _)] (pdisk d st' :: rdisk b6 N st' :: cel i27.1 (jcells d nmJ i27.2.2.2.length false) 70 :: cel i28.1 (wcells b6 nmJ i28.2.2.2.length false) 55 :: A) ⟨rfl, rfl, rfl, rfl, rfl, rfl, rfl, rfl, trivial⟩ ?_ fun ρh => ?_
                · -- law.go:91
                  exact WC.region <| sv (vmI rfl) <| sv (vmI rfl) <| sv (vF (vne rfl rfl) (by omega)) <| sv (vmB rfl) <| svg rfl (vmS rfl) <| svg rfl (vmS rfl) <| gy rfl <| cl (law3_same_true i27.2.2.2 i28.2.2.2 reads (fun x hx => RdC.of_rows (e := 5) (by simp) hx) reads (fun x hx => RdC.of_rows (e := 5) (by simp) hx) rfl rfl (by omega) (by rw [u27, u28])) ct11 rfl fun _ _ => svg rfl (vnot rfl) <| sv (vpkf rfl) <| sv (vmB rfl) <| svg rfl (vmP rfl) <| svg rfl (vpeqF Try.underlying27 rfl rfl) <| svg rfl (vmP rfl) <| svg rfl (vpeqF Try.underlying51 rfl rfl) <| svg rfl (vF (vneb Try.underlying4 rfl rfl) (by simp)) <| sv (vpkf rfl) <| WL.nil <| WX.mid () trivial ⟨rfl, trivial⟩ ⟨rfl, rfl, rfl, rfl, rfl, rfl, rfl, rfl, trivial⟩ (fun w h => (h.ix [5, 1, 4, 0, 2, 3, 6, 7, 8, 9, 10]).pk4.tail.pk4.tail.pk4.tail.pk4.tail.pk4.tail.pk4.tail.pk4.tail)
                refine WC.ff rfl ?_
                refine WC.skip <| WX.thenN <| WC.seq <| WC.region <| sv (vmP rfl) <| sv (vpneT Try.underlying27 rfl rfl) <| WL.nil <| WX.thenN <| ?_
                refine WC.tt rfl ?_
                exact WC.seq <| WC.region <| sv (vmP rfl) <| sv (vaP rfl) <| WL.nil <| WX.thenN <| WC.region <| sv (vmP rfl) <| sv (vaP rfl) <| WL.nil <| WX.blockN <| WX.mid ((i27.1, i28.1, N, ⟨st', i27.2.2.2.length, false⟩)) (⟨Nat.le_refl _, by dsimp only; omega, by dsimp only; omega, by dsimp only; omega⟩) ⟨rfl, rfl, trivial⟩ ⟨rfl, rfl, rfl, rfl, trivial⟩ (fun w h => by rw [len28] at h; exact h)
              · -- no
                refine WC.seq <| WC.region <| sv (vmP rfl) <| pm (fun _ h => h.pk1) <| cl (journal_open_no (nm := nmJ) (by omega) nmJ_ok hop he) ct10 rfl fun _ _ => sv vmv <| sv (vex rfl rfl) <| sv (vex rfl rfl) <| sv (vex rfl rfl) <| sv (vaP rfl) <| sv (vaS rfl) <| sv (vaI rfl) <| WL.nil <| WX.thenN <| WC.seq <| WC.region <| sv (vmP rfl) <| pm (fun _ h => h.pk2) <| cl (ref_open_no (nm := nmJ) (by omega) (by omega) nmJ_ok hop he hblen) ct20 rfl fun _ _ => sv vmv <| sv (vex rfl rfl) <| sv (vex rfl rfl) <| sv (vex rfl rfl) <| sv (vaP rfl) <| sv (vaS rfl) <| sv (vaI rfl) <| WL.nil <| WX.thenN <| WC.seq <| ?_
                refine WC.cut0 [(139, .bool false)] [(0, .slice _ _ _), (4, .pointer _), (5, .pointer _), (6, .pointer _), (9, .pointer _), (12, .int _ _), (16, .pointer _), (19, .pointer _)] (rdisk b6 N st' :: pdisk d st' :: cel b13 (opc o) 46 :: cel jp (jcells d nmJ s.n s.sick) 70 :: cel wp (wcells b6 nmJ s.n s.sick) 55 :: A) ⟨rfl, rfl, rfl, rfl, rfl, rfl, rfl, rfl, trivial⟩ ?_ fun ρh => ?_
                · -- law.go:91
                  exact WC.region <| sv (vmI rfl) <| sv (vmI rfl) <| sv (vF (vne rfl rfl) (by omega)) <| sv (vmB rfl) <| svg rfl (vmS rfl) <| svg rfl (vmS rfl) <| gy rfl <| cl (law3_same_true [] [] RdC.nil (by simp) RdC.nil (by simp) rfl rfl (by decide) rfl) ct11 rfl fun _ _ => svg rfl (vnot rfl) <| sv (vpkf rfl) <| sv (vmB rfl) <| svg rfl (vmP rfl) <| svg rfl (vpeqT Try.underlying27 rfl rfl) <| svg rfl (vmP rfl) <| svg rfl (vpeqT Try.underlying51 rfl rfl) <| svg rfl (vF (vneb Try.underlying4 rfl rfl) (by simp)) <| sv (vpkf rfl) <| WL.nil <| WX.mid () trivial ⟨rfl, trivial⟩ ⟨rfl, rfl, rfl, rfl, rfl, rfl, rfl, rfl, trivial⟩ (fun _ h => h)
                refine WC.ff rfl ?_
                refine WC.skip <| WX.thenN <| WC.seq <| WC.region <| sv (vmP rfl) <| sv (vpneF Try.underlying27 rfl rfl) <| WL.nil <| WX.thenN <| ?_
                refine WC.ff rfl ?_
                exact WC.skip <| WX.blockN <| WX.mid ((jp, wp, N, ⟨st', s.n, s.sick⟩)) (⟨Nat.le_refl _, by dsimp only; omega, by dsimp only; omega, by dsimp only; omega⟩) ⟨rfl, rfl, trivial⟩ ⟨rfl, rfl, rfl, rfl, trivial⟩ (fun w h => (h.ix [1, 0, 3, 4, 2]).pk4.tail)
            · -- else
              refine WC.seq <| WC.region <| sv (veq rfl rfl) <| sv (vaB rfl) <| WL.nil <| WX.thenN <| ?_
              refine WC.ite rfl (fun h13 => ?_) (fun h13 => ?_)
              · -- then
                exact WC.seq <| WC.region <| sv (vmP rfl) <| sv (vfld fl46f2 rfl) <| sv (vldc pl3 rfl) <| sv (vfld fl46f3 rfl) <| sv (vldc pl3 rfl) <| pm (fun _ h => h.pk1) <| cl (disk_arm (hx o hol).2) ct18 rfl fun _ _ => WL.nil <| WX.thenN <| WC.region <| sv (vmP rfl) <| sv (vfld fl46f2 rfl) <| sv (vldc pl3 rfl) <| sv (vfld fl46f3 rfl) <| sv (vldc pl3 rfl) <| pm (fun _ h => h.pk2) <| cl (ref_arm (hx o hol).2) ct22 rfl fun _ _ => WL.nil <| WX.blockN <| WX.mid ((jp, wp, N, ⟨{ s.st with fuse := max o.2.2.1 0, keep := o.2.2.2.1 }, s.n, s.sick⟩)) (⟨Nat.le_refl _, by dsimp only; omega, by dsimp only; omega, by dsimp only; omega⟩) ⟨rfl, rfl, trivial⟩ ⟨rfl, rfl, rfl, rfl, trivial⟩ (fun w h => (h.ix [1, 0, 3, 4, 2]).pk4.tail)
              · -- else
                refine WC.seq <| WC.region <| sv (veq rfl rfl) <| sv (vaB rfl) <| WL.nil <| WX.thenN <| ?_
                refine WC.ite rfl (fun h14 => ?_) (fun h14 => ?_)
                · -- then
                  exact WC.seq <| WC.region <| sv (vmP rfl) <| sv (vfld fl46f3 rfl) <| sv (vldc pl3 rfl) <| pm (fun _ h => h.pk1) <| cl (disk_off_at) ct23 rfl fun _ _ => WL.nil <| WX.thenN <| WC.region <| sv (vmP rfl) <| sv (vfld fl46f3 rfl) <| sv (vldc pl3 rfl) <| pm (fun _ h => h.pk2) <| cl (ref_off) ct24 rfl fun _ _ => WL.nil <| WX.blockN <| WX.mid ((jp, wp, N, ⟨offS o.2.2.2.1 s.st, s.n, s.sick⟩)) (⟨Nat.le_refl _, by dsimp only; omega, by dsimp only; rw [offS_deeds]; omega, by dsimp only; omega⟩) ⟨rfl, rfl, trivial⟩ ⟨rfl, rfl, rfl, rfl, trivial⟩ (fun w h => (h.ix [1, 0, 3, 4, 2]).pk4.tail)
                · -- else
                  refine WC.seq <| WC.region <| sv (veq rfl rfl) <| sv (vaB rfl) <| WL.nil <| WX.thenN <| ?_
                  refine WC.ite rfl (fun h15 => ?_) (fun h15 => ?_)
                  · -- then
                    refine WC.seq <| WC.region <| sv (vmP rfl) <| pm (fun _ h => h.pk1) <| cl (disk_on) ct19 rfl fun _ _ => ?_
                    refine WL.ex (fun w h => rdisk_open h.pk2) ?_
                    rintro ⟨base, c, L⟩ ⟨hr, hc⟩
                    dsimp only at hr hc ⊢
                    exact WL.nil <| WX.thenN <| WC.region <| sv (vmP rfl) <| sv (vnil rfl) <| sv (vfld fl50f1 rfl) <| stc (v := .bool _) pl4 sz4 rfl rfl rfl <| WL.nil <| WX.blockN <| WX.mid ((jp, wp, N, ⟨{ s.st with off := false }, s.n, s.sick⟩)) (⟨Nat.le_refl _, by dsimp only; omega, by dsimp only; omega, by dsimp only; omega⟩) ⟨rfl, rfl, trivial⟩ ⟨rfl, rfl, rfl, rfl, trivial⟩ (fun w h => ((rdisk_mk (st := { s.st with off := false }) (hr.same rfl hr.fuse) hc h).ix [1, 0, 3, 4, 2]).pk4.tail)
                  · -- else
                    refine WC.seq <| WC.region <| sv (veq rfl rfl) <| sv (vaB rfl) <| WL.nil <| WX.thenN <| ?_
                    refine WC.ite rfl (fun h16 => ?_) (fun h16 => ?_)
                    · -- then
                      refine WC.seq <| WC.plan (.pre [0, 1, 2] (.one [4, 5, 6] 3 (.bar [] 7 (.done [8])))) rfl (by kernel_rfl) <| WPl.pre (trivial) <| dv (fun g => (vmP rfl)) <| dv (fun g => (vfld fl46f1 rfl)) <| dv (fun g => (vldc pl22 rfl)) <| WD.nil <| WPl.one (fun g => g ++ cel b13 (opc o) 46 :: rdisk b6 N s.st :: cel jp (jcells d nmJ s.n s.sick) 70 :: cel wp (wcells b6 nmJ s.n s.sick) 55 :: A) ([pdisk d s.st]) (fun _ => trivial) ((own_perm (.swap _ _ _))) <| dv (fun g => (vmP rfl)) <| dv (fun g => (vfld fl46f1 rfl)) <| dv (fun g => (vldc pl22 rfl)) <| WD.eff rfl <| pm (fun _ h => h.pk1) <| cl (disk_append (nm := nmJ) (b := o.2.1.xs) (hR := ⟨RdC.old hBr⟩) nmJ_len (by omega) (by omega) rfl) ct9 rfl fun _ _ => WL.nil <| WX.br <| WPl.bar (⟨[_], rfl⟩) <| WD.eff rfl <| pm (fun _ h => h.pk2) <| cl (ref_append (nm := nmJ) (b := o.2.1.xs) (by omega) (RdC.old hBr) rfl (by omega)) ct25 rfl fun _ _ => WL.nil <| WX.brT <| WPl.fin (trivial) <| dv (fun g => (vne rfl rfl)) <| WD.nil <| WX.thenN <| ?_
                      refine WC.ite rfl (fun h17 => ?_) (fun h17 => ?_)
                      · -- then
                        exact absurd rfl h17
                      · -- else
                        have had := appendS_deeds nmJ o.2.1.xs s.st
                        exact WC.skip <| WX.blockN <| WX.mid ((jp, wp, N + 1, ⟨(appendS nmJ o.2.1.xs s.st).1, s.n, s.sick⟩)) (⟨Nat.le_refl _, by dsimp only; omega, by dsimp only; omega, by dsimp only; omega⟩) ⟨rfl, rfl, trivial⟩ ⟨rfl, rfl, rfl, rfl, trivial⟩ (fun w h => (h.ix [1, 0, 3, 4, 2]).pk4.tail)
                    · -- else
                      exact WC.skip <| WX.blockN <| WX.mid ((jp, wp, N, s)) (⟨Nat.le_refl _, by dsimp only; omega, by dsimp only; omega, by dsimp only; omega⟩) ⟨rfl, rfl, trivial⟩ ⟨rfl, rfl, rfl, rfl, trivial⟩ (fun w h => h.tail)
        · -- behind the join
          rintro ⟨jp2, wp2, N2, s2⟩ ⟨w1, w2, w3, w4⟩ ρh
          dsimp only at w1 w2 w3 w4 ⊢
          refine WC.ex (fun w h => rdisk_open h.pk1) ?_
          rintro ⟨base, c, L⟩ ⟨hr, hc⟩
          dsimp only at hr hc ⊢
          refine cm (fun w h => h.pk3) ?_
          refine WC.cut0 [(201, .bool false)] [(0, .slice _ _ _), (4, .pointer _), (5, .pointer _), (6, .pointer _), (9, .pointer _), (12, .int _ _)] (pdisk d s2.st :: cel b6 (rcells base L.length c s2.st) 50 :: row base c 3 79 (fcells L) :: rows 5 (L.map (·.b)) :: cel jp2 (jcells d nmJ s2.n s2.sick) 70 :: cel wp2 (wcells b6 nmJ s2.n s2.sick) 55 :: A) ⟨rfl, rfl, rfl, rfl, rfl, rfl, trivial⟩ ?_ fun ρh => ?_
          · -- law.go:112
            exact WC.draws rfl (by kernel_rfl) <| qv (vmP rfl) <| qcl (Fun.quiet (disk_up)) ct26 rfl <| qv (vmP rfl) <| qv (vnil rfl) <| qv (vfld fl50f1 rfl) <| qv (vldc pl4 rfl) <| qv (vF (veqb Try.underlying4 rfl rfl) (by cases s2.st.off <;> simp)) <| qv (vmB rfl) <| qvg rfl (vmP rfl) <| qclg rfl (Fun.quiet (disk_deeds)) ct27 rfl <| qvg rfl (vmP rfl) <| qvg rfl (vnil rfl) <| qvg rfl (vfld fl50f4 rfl) <| qvg rfl (vldc pl3 rfl) <| qvg rfl (vF (vne rfl rfl) (fun h => h rfl)) <| qv (vpkf rfl) <| WQ.nil <| WX.mid () trivial ⟨rfl, trivial⟩ ⟨rfl, rfl, rfl, rfl, rfl, rfl, trivial⟩ (fun _ h => h)
          refine WC.ff rfl ?_
          exact WC.skip <| WX.blockN <| WX.thenN <| WC.region <| sv (vmI rfl) <| sv (vadd rfl rfl (by omega)) <| sv (vaI rfl) <| WL.nil <| WX.again (⟨k + 1, jp2, wp2, N2, s2⟩) (⟨by dsimp only; omega, w2, w3, w4⟩) (by dsimp only; omega) ⟨rfl, rfl, rfl, trivial⟩ ⟨rfl, rfl, rfl, trivial⟩ (fun w h => (rdisk_mk hr hc (h.ix [1, 2, 3, 0, 4, 5])).pk1)
      · -- else
        exact WC.exit <| WX.thenE <| WX.thenE <| WX.blockH <| WX.thenN <| WC.seq <| WC.region <| cl (law3_awake) ct13 rfl fun _ _ => sv (vaB rfl) <| WL.nil <| WX.thenN <| WC.ret <| WX.ret1 rfl (()) (trivial) rfl (fun w h => h.tail.tail.tail.tail)
end Go.Proofs.Ytephlppgappcnaa
