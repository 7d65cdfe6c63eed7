/-
  Statements of layer 1 as walks: a reader reads just what the form says.
-/
import Derived.Test.YtbmfcfddbcbdgaaPackLawE
import Derived.Test.YtbmfcfddbcbdgaaPackSpecE
import Derived.Test.YtbmfcfddbcbdgaaSlRow
set_option linter.unusedVariables false
set_option linter.unusedSimpArgs false
set_option maxRecDepth 4000
namespace Go.Proofs.Ytbmfcfddbcbdgaa
open Go.Sl Go.Pack Go.RowKit

theorem pack_new_at {w0 : World} {A : List HProp} {base : Option Addr} {c n : Nat} (bs : List UInt8) (hR : RdC w0 A base (u8s bs)) (hn : n = bs.length) (hb : bs.length ≤ 140737488355328) :
    Fun Try.prog w0 19 [.slice base n c] A (Ret w0 (fun _ : Nat => True) (fun r => .pointer (some ⟨r, 0, none⟩)) (fun r => preader r bs false :: A)) := by
  subst hn; exact pack_new (hR := ⟨hR⟩) hb
theorem i64s_getD {xs : List Int} {i : Nat} (h : i < xs.length) : (i64s xs)[((i : Int)).toNat]? = some (.int .i64 (xs.getD i 0)) := by
  have : ((i : Int)).toNat = i := by omega
  rw [this, i64s_at h, List.getD_eq_getElem?_getD, List.getElem?_eq_getElem h]; rfl
theorem rnumS_le {st : Option (List UInt8)} {m : Nat} (h : ∀ b, st = some b → b.length ≤ m) : ∀ b, rnumS st = some b → b.length ≤ m := by
  intro b hb
  cases st with
  | none => simp [rnumS] at hb
  | some bs =>
    cases ht : take bs with
    | none => simp [rnumS, ht] at hb
    | some p => simp [rnumS, ht] at hb; have := h _ rfl; rw [← hb]; simp; omega
theorem rtext_le {st : Option (List UInt8)} {m : Nat} (h : ∀ b, st = some b → b.length ≤ m) : ∀ b, (st.bind rtext).map (·.2) = some b → b.length ≤ m := by
  intro b hb
  cases hs : rnumS st with
  | none => rw [rt_none hs] at hb; cases hb
  | some ds =>
    rw [rt_some hs] at hb
    split at hb
    · cases hb
    · simp at hb; have := rnumS_le h _ hs; rw [← hb]; simp; omega
theorem walk_reads {w0 : World} {A : List HProp} {base base0 : Option Addr} {c cx : Nat} {bs : List UInt8} {xs : List Int} (hr : Rd w0 base (u8s bs)) (hc : bs.length ≤ c) [hX : Reads w0 A base0 (i64s xs)] :
    Fun Try.prog w0 7 [.slice base bs.length c, .slice base0 xs.length cx] A (Ret w0 (fun _ : Unit => True) (fun _ => .bool true) (fun _ => A)) := by
  have hR : Reads w0 A base (u8s bs) := ⟨RdC.old hr⟩
  refine Fun.enter Try.func7 rfl Try.ntmps7 rfl ?_
  refine WC.seq <| WC.region <| sv (vaB rfl) <| WL.nil <| WX.thenN <| WC.seq <| ?_
  refine WC.cut0 [(17, .bool (decide (4096 < bs.length ∨ 4096 < xs.length)))] [(0, .slice _ _ _), (1, .slice _ _ _)] (A) ⟨rfl, rfl, trivial⟩ ?_ fun ρh => ?_
  · -- law.go:48
    refine WC.region <| sv (vmS rfl) <| sv (vlen Try.underlying22 rfl) <| svs (vgt rfl rfl) (fun q1 => ?_) (fun q1 => ?_)
    ·
      exact sv (vmB rfl) <| sng rfl <| sng rfl <| sng rfl <| sv (vpkt rfl) <| WL.nil <| WX.mid () trivial ⟨bT (by first | omega | simp_all | grind), trivial⟩ ⟨rfl, rfl, trivial⟩ (fun _ h => h)
    ·
      exact sv (vmB rfl) <| svg rfl (vmS rfl) <| svg rfl (vlen Try.underlying36 rfl) <| svg rfl (vgt rfl rfl) <| sv (vpkf rfl) <| WL.nil <| WX.mid () trivial ⟨bI (by first | omega | simp_all | grind), trivial⟩ ⟨rfl, rfl, trivial⟩ (fun _ h => h)
  refine WC.ite rfl (fun h1 => ?_) (fun h1 => ?_)
  · -- then
    exact WC.seq <| WC.region <| sv (vaB rfl) <| WL.nil <| WX.thenN <| WC.ret <| WX.thenR <| WX.ret1 rfl (()) (trivial) rfl (fun _ h => h)
  · -- else
    refine WC.skip <| WX.thenN <| WC.seq <| WC.region <| bsl0 Try.underlying22 zt5 fun b1 => sv (vmS rfl) <| apb Try.underlying22 zt5 rfl rfl (by simp) (by simp) reads (by omega) fun base2 c2 hc2 => sv (vaS rfl) <| WL.nil <| WX.thenN <| WC.seq <| WC.region <| sv (vmS rfl) <| cl (pack_new_at bs reads (by simp) (by omega)) ct19 rfl fun r3 _ => sv (vaP rfl) <| WL.nil <| WX.thenN <| WC.seq <| WC.seq <| WC.region <| sv (vmP rfl) <| sv (vpeqF Try.underlying37 rfl rfl) <| WL.nil <| WX.thenN <| ?_
    refine WC.ff rfl ?_
    refine WC.skip <| WX.thenN <| WC.seq <| WC.seq <| WC.region <| sv (vaI rfl) <| WL.nil <| WX.thenN <| WC.block <| ?_
    refine WC.loop (ι := Nat × List UInt8) (fun i => [(7, .int .i64 i.1)]) [(0, .slice _ _ _), (1, .slice _ _ _), (5, .slice _ _ _), (6, .pointer _)] (fun i => row base2 c2 1 5 (u8s i.2) :: preader r3 bs false :: A) (fun i => i.1 ≤ bs.length ∧ i.2.length = bs.length) (fun i => bs.length - i.1) ((0, bs)) (⟨by omega, rfl⟩) ⟨rfl, trivial⟩ ⟨rfl, rfl, rfl, rfl, trivial⟩ (fun w h => h.pk1) ?_
    rintro ⟨k, L⟩ ⟨hk, hl⟩ ρh
    dsimp only at hk hl ⊢
    refine WC.seq <| WC.seq <| WC.region <| sv (vmI rfl) <| sv (vmS rfl) <| sv (vlen Try.underlying22 rfl) <| sv (vlt rfl rfl) <| WL.nil <| WX.thenN <| ?_
    refine WC.ite rfl (fun h3 => ?_) (fun h3 => ?_)
    · -- then
      have hkk : ((k : Int)).toNat < L.length := by omega
      exact WC.skip <| WX.thenN <| WC.seq <| WC.block <| WC.region <| sv (vmS rfl) <| sv (vmI rfl) <| sv (vixb Try.underlying22 sz5 rfl rfl (by omega) (by omega) (by omega)) <| str (v := u8v 99) pl5 sz5 rfl rfl rfl (by simpa using hkk) <| WL.nil <| WX.blockN <| WX.thenN <| WC.region <| sv (vmI rfl) <| sv (vadd rfl rfl (by omega)) <| sv (vaI rfl) <| WL.nil <| WX.again ((k + 1, L.set (k : Int).toNat 99)) (⟨by dsimp only; omega, by simp [hl]⟩) (by omega) ⟨rfl, trivial⟩ ⟨rfl, rfl, rfl, rfl, trivial⟩ (fun w h => by rw [← u8s_set]; exact h)
    · -- else
      refine WC.exit <| WX.thenE <| WX.thenE <| WX.blockH <| WX.thenN <| WC.seq <| WC.region <| sv (vmS rfl) <| sv (vbd (ps := [(0, .slice _ _ _)]) (cs := [_, _]) bt41 zt41 rfl (by rfl)) <| bx (v := .agg _) rfl fun b9 => sv (vaP rfl) <| WL.nil <| WX.thenN <| WC.seq <| WC.seq <| WC.region <| sv (vaI rfl) <| WL.nil <| WX.thenN <| WC.block <| ?_
      refine WC.loop (ι := Nat × Option (List UInt8)) (fun i => [(9, .int .i64 i.1)]) [(1, .slice _ _ _), (6, .pointer _), (8, .pointer _)] (fun i => rstate r3 i.2 :: rread w0 b9 i.2 :: A) (fun i => i.1 ≤ xs.length ∧ ∀ b, i.2 = some b → b.length ≤ 4096) (fun i => xs.length - i.1) ((0, some bs)) (⟨by omega, by simp; omega⟩) ⟨rfl, trivial⟩ ⟨rfl, rfl, rfl, trivial⟩ (fun w h => (rread_mk (st := some bs) hc hr (by simp) h).pk1.tail.pk1) ?_
      rintro ⟨k2, st⟩ ⟨hk2, hst⟩ ρh2
      dsimp only at hk2 hst ⊢
      refine WC.seq <| WC.seq <| WC.region <| sv (vmI rfl) <| sv (vmS rfl) <| sv (vlen Try.underlying36 rfl) <| sv (vlt rfl rfl) <| WL.nil <| WX.thenN <| ?_
      refine WC.ite rfl (fun h4 => ?_) (fun h4 => ?_)
      · -- then
        refine WC.skip <| WX.thenN <| WC.seq <| WC.block <| ?_
        refine WC.cutv (ι := Option (List UInt8)) (fun i => []) [(1, .slice _ _ _), (6, .pointer _), (8, .pointer _), (9, .int _ _)] (fun i => rstate r3 i :: rread w0 b9 i :: A) (fun i => ∀ b, i = some b → b.length ≤ 4096) ⟨rfl, rfl, rfl, rfl, trivial⟩ ?_ ?_
        · -- up to the join
          refine WC.seq <| WC.region <| sv (vmS rfl) <| sv (vmI rfl) <| sv (vix1 Try.underlying36 sz3 rfl rfl (by omega) (by omega) reads (by simp; omega)) <| sv (vldr pl3 rfl (i64s_getD (by omega))) <| WL.nil <| WX.thenN <| WC.block <| WC.seq <| WC.region <| sv (veq rfl rfl) <| sv (vaB rfl) <| WL.nil <| WX.thenN <| ?_
          refine WC.ite rfl (fun h5 => ?_) (fun h5 => ?_)
          · -- then
            refine WC.seq <| WC.region <| sv (vmP rfl) <| cl (pnum (fun b h => Nat.le_trans (hst b h) (by decide))) ct20 rfl fun _ _ => sv (vmP rfl) <| pm (fun _ h => h.pk1) <| cl (rref_num (fun b h => Nat.le_trans (hst b h) (by decide))) ct21 rfl fun _ _ => sv (vF (vne rfl rfl) (by simp [rnum])) <| WL.nil <| WX.thenN <| ?_
            refine WC.ff rfl ?_
            exact WC.skip <| WX.blockN <| WX.mid (rnumS st) (rnumS_le hst) trivial ⟨rfl, rfl, rfl, rfl, trivial⟩ (fun w h => h.pk1)
          · -- else
            refine WC.seq <| WC.region <| sv (veq rfl rfl) <| sv (vaB rfl) <| WL.nil <| WX.thenN <| ?_
            refine WC.ite rfl (fun h7 => ?_) (fun h7 => ?_)
            · -- then
              refine WC.seq <| WC.region <| sv (vmP rfl) <| cl (ptext (fun b h => Nat.le_trans (hst b h) (by decide))) ct22 rfl fun _ _ => sv (vmP rfl) <| pm (fun _ h => h.pk1) <| cl (rref_text (fun b h => Nat.le_trans (hst b h) (by decide))) ct23 rfl fun _ _ => sv (vF (vnes rfl rfl) (by simp)) <| WL.nil <| WX.thenN <| ?_
              refine WC.ff rfl ?_
              exact WC.skip <| WX.blockN <| WX.mid ((st.bind rtext).map (·.2)) (rtext_le hst) trivial ⟨rfl, rfl, rfl, rfl, trivial⟩ (fun w h => h.pk1)
            · -- else
              exact WC.skip <| WX.blockN <| WX.mid (st) (hst) trivial ⟨rfl, rfl, rfl, rfl, trivial⟩ (fun _ h => h)
        · -- behind the join
          intro st2 hst2 ρh3
          refine WC.ex (fun w h => rread_open h.pk1) ?_
          rintro ⟨base4, c4, ds⟩ ⟨hc4, hr4, hs4⟩
          dsimp only at hc4 hr4 hs4 ⊢
          refine WC.cut0 [(92, .bool false)] [(1, .slice _ _ _), (6, .pointer _), (8, .pointer _), (9, .int _ _)] (cel b9 [.slice base4 ds.length c4, .bool st2.isNone] 41 :: rstate r3 st2 :: A) ⟨rfl, rfl, rfl, rfl, trivial⟩ ?_ fun ρh => ?_
          · -- law.go:71
            refine WC.draws rfl (by kernel_rfl) <| qv (vmP rfl) <| qcl (Fun.quiet (Fun.qpm (fun _ h => h.pk1) (fun _ h => h.pk1) (pack_left (r := r3) (bs := st2.getD []) (bad := st2.isNone)))) ct24 rfl <| qv (vmP rfl) <| qcl (Fun.quiet (rref_left)) ct25 rfl <| qv (vF (vne rfl rfl) (by cases st2 <;> simp_all)) <| qv (vmB rfl) <| qvg rfl (vmP rfl) <| qclg rfl (Fun.quiet (Fun.qpm (fun _ h => h.pk1) (fun _ h => h.pk1) (pack_bad (r := r3) (bs := st2.getD []) (bad := st2.isNone)))) ct26 rfl <| qvg rfl (vmP rfl) <| qvg rfl (vnil rfl) <| qvg rfl (vfld fl41f1 rfl) <| qvg rfl (vldc pl4 rfl) <| qvg rfl (vF (vneb Try.underlying4 rfl rfl) (by simp)) <| qv (vpkf rfl) <| qv (vmB rfl) <| qvg rfl (vmP rfl) <| qclg rfl (Fun.quiet (Fun.qpm (fun _ h => h.pk1) (fun _ h => h.pk1) (pack_done (r := r3) (bs := st2.getD []) (bad := st2.isNone)))) ct27 rfl <| qvg rfl (vmP rfl) <| qvg rfl (vnil rfl) <| qvg rfl (vfld fl41f1 rfl) <| qvbg rfl (vldc pl4 rfl) (fun q2 => ?_) (fun q2 => ?_)
            ·
              exact qvg rfl (vnot rfl) <| qvg rfl (vmB rfl) <| qng rfl <| qng rfl <| qng rfl <| qng rfl <| qng rfl <| qng rfl <| qvg rfl (vpkf rfl) <| qvg rfl (vF (vneb Try.underlying4 rfl rfl) (by cases st2 <;> simp_all)) <| qv (vpkf rfl) <| WQ.nil <| WX.mid () trivial ⟨rfl, trivial⟩ ⟨rfl, rfl, rfl, rfl, trivial⟩ (fun _ h => h)
            ·
              exact qvg rfl (vnot rfl) <| qvg rfl (vmB rfl) <| qvg rfl (vmP rfl) <| qvg rfl (vnil rfl) <| qvg rfl (vfld fl41f0 rfl) <| qvg rfl (vldc pl22 rfl) <| qvg rfl (vlen Try.underlying22 rfl) <| qvg rfl (veq rfl rfl) <| qvg rfl (vpkt rfl) <| qvg rfl (vF (vneb Try.underlying4 rfl rfl) (by cases st2 <;> simp_all)) <| qv (vpkf rfl) <| WQ.nil <| WX.mid () trivial ⟨rfl, trivial⟩ ⟨rfl, rfl, rfl, rfl, trivial⟩ (fun _ h => h)
          refine WC.ff rfl ?_
          exact WC.skip <| WX.blockN <| WX.thenN <| WC.region <| sv (vmI rfl) <| sv (vadd rfl rfl (by omega)) <| sv (vaI rfl) <| WL.nil <| WX.again ((k2 + 1, st2)) (⟨by dsimp only; omega, hst2⟩) (by omega) ⟨rfl, trivial⟩ ⟨rfl, rfl, rfl, trivial⟩ (fun w h => (rread_mk hc4 hr4 hs4 h).pk1)
      · -- else
        exact WC.exit <| WX.thenE <| WX.thenE <| WX.blockH <| WX.thenN <| WC.seq <| WC.region <| cl (law_awake) ct13 rfl fun _ _ => sv (vaB rfl) <| WL.nil <| WX.thenN <| WC.ret <| WX.ret1 rfl (()) (trivial) rfl (fun w h => h.suf)
end Go.Proofs.Ytbmfcfddbcbdgaa
