/-
  Layer 2: a file is there just if its name may be.
-/
import Derived.Test.YtijbgeboaakmmaaDiskNamesB
import Derived.Test.YtijbgeboaakmmaaDiskLawB
import Derived.Test.YtijbgeboaakmmaaRefDiskC
import Derived.Test.YtijbgeboaakmmaaSlEq
set_option linter.unusedVariables false
set_option linter.unusedSimpArgs false
set_option maxRecDepth 4000
namespace Go.Proofs.Ytijbgeboaakmmaa
open Go.Sl Go.RowKit

/-- a disk that is on, of at most n files without bytes -/
structure Nd (n : Nat) (st : DSt) : Prop where
  off : st.off = false
  fuse : st.fuse = 0
  deeds : 0 ≤ st.deeds ∧ st.deeds ≤ 2 * n
  none_ : ∀ k v, st.files k = some v → v = ([], 0)
  nm : Nm n st
theorem Nd.new : Nd 0 newD := ⟨rfl, rfl, ⟨by decide, by decide⟩, fun k v h => (by cases h), Nm.new⟩
theorem Nm.put {N : Nat} {st st' : DSt} {nm : ByteArray} {v : List UInt8 × Nat} (h : Nm N st) (hn : okName nm) (hf : st'.files = putV nm v st.files) : Nm (N + 1) st' := by
  have hs : ∀ k, (st'.files k).isSome = true → k = nm ∨ (st.files k).isSome = true := fun k hk => by
    rw [hf] at hk; unfold putV at hk
    split at hk
    · exact .inl (by assumption)
    · exact .inr hk
  obtain ⟨ns, hl, hm⟩ := h.names
  refine ⟨⟨nm :: ns, by simp only [List.length_cons]; omega, fun k hk => ?_⟩, fun k hk => ?_⟩
  · rcases hs k hk with rfl | hk
    · exact List.mem_cons_self
    · exact List.mem_cons_of_mem _ (hm k hk)
  · rcases hs k hk with rfl | hk
    · exact hn
    · exact h.ok k hk
theorem Nm.mono {N M : Nat} {st : DSt} (h : Nm N st) (hM : N ≤ M) : Nm M st := by
  obtain ⟨ns, hl, hm⟩ := h.names
  exact ⟨⟨ns, by omega, hm⟩, h.ok⟩
theorem Nm.same {N : Nat} {st st' : DSt} (h : Nm N st) (hs : ∀ k, (st'.files k).isSome = true → (st.files k).isSome = true) : Nm N st' := by
  obtain ⟨ns, hl, hm⟩ := h.names
  exact ⟨⟨ns, hl, fun k hk => hm k (hs k hk)⟩, fun k hk => h.ok k (hs k hk)⟩
theorem Nd.yes {n : Nat} {st : DSt} {nm : ByteArray} (h : Nd n st) (hn : okName nm) : ∃ st1 st2, appendS nm [] st = (st1, 0) ∧ (0 ≤ st1.deeds ∧ st1.deeds ≤ 2 * n + 1) ∧ syncS nm st1 = (st2, 0) ∧ Nd (n + 1) st2 := by
  have hV : appendV nm [] st.files = ([], 0) := by
    unfold appendV
    cases hf : st.files nm with
    | none => rfl
    | some v => rw [h.none_ nm v hf]; rfl
  have hk := appendS_eq (b := []) h.off hn (V := ([], 0)) (n := 0) hV rfl
  rw [if_pos (by omega), if_neg (by rw [h.fuse]; decide)] at hk
  have hd := h.deeds
  have hf0 : max (st.fuse - 1) 0 = 0 := by rw [h.fuse]; rfl
  refine ⟨_, ({ st with deeds := st.deeds + 1 + 1, fuse := 0, files := putV nm ([], 0) (putV nm ([], 0) st.files) } : DSt), hk, ⟨by dsimp only; omega, by dsimp only; omega⟩, ?_, ?_⟩
  · unfold syncS
    dsimp only
    rw [if_neg (by rw [h.off]; decide)]
    simp only [putV, if_pos]
    unfold deedS
    dsimp only
    rw [hf0]
    rfl
  · refine ⟨h.off, rfl, ⟨by dsimp only; omega, by dsimp only; omega⟩, fun k v hk => ?_, ?_⟩
    · dsimp only [putV] at hk
      split at hk
      · cases hk; rfl
      · exact h.none_ k v hk
    · refine Nm.put h.nm hn (v := ([], 0)) ?_
      funext k
      dsimp only [putV]
      split <;> rfl
theorem Nd.no {n : Nat} {st : DSt} {nm : ByteArray} (h : Nd n st) (hn : ¬ okName nm) : appendS nm [] st = (st, 51) ∧ syncS nm st = (st, 21) := by
  have ho : ¬ st.off = true := by rw [h.off]; decide
  refine ⟨by unfold appendS; rw [if_neg ho, if_pos hn], ?_⟩
  unfold syncS
  rw [if_neg ho]
  have : st.files nm = none := by
    cases hf : st.files nm with
    | none => rfl
    | some v => exact absurd (h.nm.ok nm (by rw [hf]; rfl)) hn
  rw [this]
theorem Nd.more {n : Nat} {st : DSt} (h : Nd n st) : Nd (n + 1) st := ⟨h.off, h.fuse, ⟨h.deeds.1, by have := h.deeds.2; omega⟩, h.none_, h.nm.mono (by omega)⟩
def hnd (d n : Nat) : HProp := fun h => ∃ st, Nd n st ∧ pdisk d st h
theorem hnd_open {w0 w : World} {d n : Nat} {A : List HProp} (H : Own w0 (hnd d n :: A) w) : ∃ st, Nd n st ∧ Own w0 (pdisk d st :: A) w := by
  obtain ⟨hb, h, ⟨h1, h2, ⟨st, hs, a⟩, a2, dd, y⟩, hw'⟩ := H
  exact ⟨st, hs, hb, h, ⟨h1, h2, a, a2, dd, y⟩, hw'⟩
theorem hnd_mk {w0 w : World} {d n : Nat} {A : List HProp} {st : DSt} (hs : Nd n st) (H : Own w0 (pdisk d st :: A) w) : Own w0 (hnd d n :: A) w := H.head fun _ h => ⟨st, hs, h⟩
theorem disk_new_nd {w0 : World} {A : List HProp} : Fun Try.prog w0 9 [] A (Ret w0 (fun _ : Nat => True) (fun d => .pointer (some ⟨d, 0, none⟩)) (fun d => hnd d 0 :: A)) :=
  disk_new.mono fun e w ⟨i, hi, he, hO⟩ => ⟨i, hi, he, hnd_mk Nd.new hO⟩
theorem NamesOf.few {N : Nat} {st : DSt} {ns : List ByteArray} (h : NamesOf st ns) (hN : Nm N st) : ns.length ≤ N ∧ ∀ x ∈ ns, okName x := by
  obtain ⟨m, hl, hm⟩ := hN.names
  refine ⟨Nat.le_trans (nodup_le (h.sorted.imp fun h => nless_ne h) fun x hx => hm x ((h.mem x).1 hx).2) hl, fun x hx => hN.ok x ((h.mem x).1 hx).2⟩
theorem NamesOf.rise {st : DSt} {ns : List ByteArray} (h : NamesOf st ns) {i : Nat} (h0 : 0 < i) (hi : i < ns.length) : (!Op.bytesLess (ns[i - 1]'(by omega)).toList ns[i].toList) = false := by
  have := List.pairwise_iff_getElem.1 h.sorted (i - 1) i (by omega) hi (by omega)
  unfold nless at this
  rw [this]; rfl
theorem walk_names {w0 : World} {A : List HProp} {nb : Option Addr} {nc : Nat} {ns : List ByteArray} (hR : Rd w0 nb (strs ns)) :
    Fun Try.prog w0 4 [.slice nb ns.length nc] A (Ret w0 (fun _ : Unit => True) (fun _ => .bool true) (fun _ => A)) := by
  refine Fun.enter Try.func4 rfl Try.ntmps4 rfl ?_
  refine WC.seq <| WC.region <| sv (vaB rfl) <| WL.nil <| WX.thenN <| WC.seq <| WC.seq <| WC.region <| sv (vmS rfl) <| sv (vlen Try.underlying36 rfl) <| sv (vgt rfl rfl) <| WL.nil <| WX.thenN <| ?_
  refine WC.ite rfl (fun h1 => ?_) (fun h1 => ?_)
  · -- then
    exact WC.seq <| WC.region <| sv (vaB rfl) <| WL.nil <| WX.thenN <| WC.ret <| WX.thenR <| WX.ret1 rfl (()) (trivial) rfl (fun _ h => Sb.own (by repeat' (first | with_reducible exact Sb.all | exact Sb.nil | (apply Sb.cons; focus (first | ((repeat (first | with_reducible exact Tk.here | with_reducible apply Tk.there)); done) | ((repeat (first | exact Tk.here | apply Tk.there)); done))) | apply Sb.drop)) h)
  · -- else
    refine WC.skip <| WX.thenN <| WC.seq <| WC.region <| clx (by repeat' (first | with_reducible exact Sb.all | exact Sb.nil | (apply Sb.cons; focus (first | ((repeat (first | with_reducible exact Tk.here | with_reducible apply Tk.there)); done) | ((repeat (first | exact Tk.here | apply Tk.there)); done))) | apply Sb.drop)) (disk_new_nd) ct9 rfl fun r1 hr1 => ?_
    refine sv (vaP rfl) <| WL.nil <| WX.thenN <| WC.seq <| WC.seq <| WC.region <| sv (vmP rfl) <| sv (vpeqF Try.underlying25 rfl rfl) <| WL.nil <| WX.thenN <| ?_
    refine WC.ff rfl ?_
    refine WC.skip <| WX.thenN <| WC.seq <| WC.seq <| WC.region <| sv (vaI rfl) <| WL.nil <| WX.thenN <| WC.block <| ?_
    refine WC.loop (ι := Nat) (fun i => [(4, .int .i64 i)]) [(0, .slice _ _ _), (3, .pointer _)] (fun i => hnd r1 i :: A) (fun i => i ≤ ns.length) (fun i => ns.length - i) (0) (by omega) ⟨rfl, trivial⟩ ⟨rfl, rfl, trivial⟩ (fun _ h => Sb.own (by repeat' (first | with_reducible exact Sb.all | exact Sb.nil | (apply Sb.cons; focus (first | ((repeat (first | with_reducible exact Tk.here | with_reducible apply Tk.there)); done) | ((repeat (first | exact Tk.here | apply Tk.there)); done))) | apply Sb.drop)) h) ?_
    intro i hi ρh
    refine WC.seq <| WC.seq <| WC.region <| sv (vmI rfl) <| sv (vmS rfl) <| sv (vlen Try.underlying36 rfl) <| sv (vlt rfl rfl) <| WL.nil <| WX.thenN <| ?_
    refine WC.ite rfl (fun h3 => ?_) (fun h3 => ?_)
    · -- then
      have hil : i < ns.length := by omega
      have hs : (strs ns)[((i : Int)).toNat]? = some (.string ns[i]) := by rw [Int.toNat_natCast]; exact strs_at hil
      generalize ns[i] = s at hs
      refine WC.ex (B := fun st => pdisk r1 st :: A) (fun w h => hnd_open h) ?_
      intro st hst
      have hsd := hst.deeds
      refine WC.skip <| WX.thenN <| WC.seq <| WC.block <| WC.seq <| WC.seq <| WC.region <| sv (vmS rfl) <| sv (vmI rfl) <| sv (vix1 Try.underlying36 sz9 rfl rfl (by omega) (by omega) (RdC.old hR) (by rw [strs_length]; omega)) <| sv (vldo pl9 rfl (RdC.old hR) hs) <| sv (vlens Try.underlying9 rfl) <| sv (vgt rfl rfl) <| WL.nil <| WX.thenN <| ?_
      refine WC.ite rfl (fun h4 => ?_) (fun h4 => ?_)
      · -- then
        exact WC.seq <| WC.region <| sv (vaB rfl) <| WL.nil <| WX.thenN <| WC.ret <| WX.thenR <| WX.blockR <| WX.thenR <| WX.thenR <| WX.blockR <| WX.thenR <| WX.ret1 rfl (()) (trivial) rfl (fun _ h => Sb.own (by repeat' (first | with_reducible exact Sb.all | exact Sb.nil | (apply Sb.cons; focus (first | ((repeat (first | with_reducible exact Tk.here | with_reducible apply Tk.there)); done) | ((repeat (first | exact Tk.here | apply Tk.there)); done))) | apply Sb.drop)) h)
      · -- else
        refine WC.skip <| WX.thenN <| WC.seq <| WC.region <| sv (vaI rfl) <| WL.nil <| WX.thenN <| WC.seq <| WC.seq <| WC.region <| sv (vmS rfl) <| sv (vmI rfl) <| sv (vix1 Try.underlying36 sz9 rfl rfl (by omega) (by omega) (RdC.old hR) (by rw [strs_length]; omega)) <| sv (vldo pl9 rfl (RdC.old hR) hs) <| clx (by repeat' (first | with_reducible exact Sb.all | exact Sb.nil | (apply Sb.cons; focus (first | ((repeat (first | with_reducible exact Tk.here | with_reducible apply Tk.there)); done) | ((repeat (first | exact Tk.here | apply Tk.there)); done))) | apply Sb.drop)) (ref_name) ct16 rfl fun r7 hr7 => ?_
        refine sv (vnot rfl) <| WL.nil <| WX.thenN <| ?_
        refine WC.iteb rfl (fun h5 => ?_) (fun h5 => ?_)
        · -- then
          have hno : ¬ okName s := by simpa using h5
          obtain ⟨ha, hb⟩ := hst.no hno
          · -- no
            refine WC.region <| sv (vaI rfl) <| WL.nil <| WX.thenN <| ?_
            refine WC.cutS [(51, .bool false)] [(0, .slice _ _ _), (3, .pointer _), (4, .int _ _)] ⟨rfl, rfl, rfl, trivial⟩ ?_ fun ρh => ?_
            · -- law.go:241
              refine WC.region <| sv (vmP rfl) <| sv (vmS rfl) <| sv (vmI rfl) <| sv (vix1 Try.underlying36 sz9 rfl rfl (by omega) (by omega) (RdC.old hR) (by rw [strs_length]; omega)) <| sv (vldo pl9 rfl (RdC.old hR) hs) <| clx (by repeat' (first | with_reducible exact Sb.all | exact Sb.nil | (apply Sb.cons; focus (first | ((repeat (first | with_reducible exact Tk.here | with_reducible apply Tk.there)); done) | ((repeat (first | exact Tk.here | apply Tk.there)); done))) | apply Sb.drop)) (disk_append_at (b := []) (hR := ⟨RdC.nil⟩) (by omega) (by omega) (by decide) rfl ha) ct10 rfl fun r10 hr10 => ?_
              refine sv (vmI rfl) <| sv (vF (vne rfl rfl) (by omega)) <| sv (vmB rfl) <| svg rfl (vmP rfl) <| svg rfl (vmS rfl) <| svg rfl (vmI rfl) <| svg rfl (vix1 Try.underlying36 sz9 rfl rfl (by omega) (by omega) (RdC.old hR) (by rw [strs_length]; omega)) <| svg rfl (vldo pl9 rfl (RdC.old hR) hs) <| gy rfl <| clx (by repeat' (first | with_reducible exact Sb.all | exact Sb.nil | (apply Sb.cons; focus (first | ((repeat (first | with_reducible exact Tk.here | with_reducible apply Tk.there)); done) | ((repeat (first | exact Tk.here | apply Tk.there)); done))) | apply Sb.drop)) (disk_sync_at (by omega) hb) ct11 rfl fun r13 hr13 => ?_
              exact svg rfl (vF (veq rfl rfl) (by omega)) <| svg rfl (vmI rfl) <| svg rfl (vF (veq rfl rfl) (by omega)) <| svg rfl (vF (vneb Try.underlying4 rfl rfl) (by simp)) <| sv (vpkf rfl) <| WL.nil <| WX.mid () trivial ⟨rfl, trivial⟩ ⟨rfl, rfl, rfl, trivial⟩ (fun _ h => Sb.own (by repeat' (first | with_reducible exact Sb.all | exact Sb.nil | (apply Sb.cons; focus (first | ((repeat (first | with_reducible exact Tk.here | with_reducible apply Tk.there)); done) | ((repeat (first | exact Tk.here | apply Tk.there)); done))) | apply Sb.drop)) h)
            refine WC.ff rfl ?_
            exact WC.skip <| WX.blockN <| WX.thenN <| WC.region <| sv (vmI rfl) <| sv (vadd rfl rfl (by omega)) <| sv (vaI rfl) <| WL.nil <| WX.again (i + 1) (by omega) (by omega) ⟨rfl, trivial⟩ ⟨rfl, rfl, trivial⟩ (fun w h => hnd_mk hst.more (Sb.own (by repeat' (first | with_reducible exact Sb.all | exact Sb.nil | (apply Sb.cons; focus (first | ((repeat (first | with_reducible exact Tk.here | with_reducible apply Tk.there)); done) | ((repeat (first | exact Tk.here | apply Tk.there)); done))) | apply Sb.drop)) h))
        · -- else
          have hok : okName s := by simpa using h5
          obtain ⟨s1, s2, ha, hd1, hb, hn⟩ := hst.yes hok
          · -- ye
            refine WC.skip <| WX.thenN <| ?_
            refine WC.cut0 [(51, .bool false)] [(0, .slice _ _ _), (3, .pointer _), (4, .int _ _)] (pdisk r1 s2 :: A) ⟨rfl, rfl, rfl, trivial⟩ ?_ fun ρh => ?_
            · -- law.go:241
              refine WC.region <| sv (vmP rfl) <| sv (vmS rfl) <| sv (vmI rfl) <| sv (vix1 Try.underlying36 sz9 rfl rfl (by omega) (by omega) (RdC.old hR) (by rw [strs_length]; omega)) <| sv (vldo pl9 rfl (RdC.old hR) hs) <| clx (by repeat' (first | with_reducible exact Sb.all | exact Sb.nil | (apply Sb.cons; focus (first | ((repeat (first | with_reducible exact Tk.here | with_reducible apply Tk.there)); done) | ((repeat (first | exact Tk.here | apply Tk.there)); done))) | apply Sb.drop)) (disk_append_at (b := []) (hR := ⟨RdC.nil⟩) (by omega) (by omega) (by decide) rfl ha) ct10 rfl fun r10 hr10 => ?_
              refine sv (vmI rfl) <| sv (vF (vne rfl rfl) (by omega)) <| sv (vmB rfl) <| svg rfl (vmP rfl) <| svg rfl (vmS rfl) <| svg rfl (vmI rfl) <| svg rfl (vix1 Try.underlying36 sz9 rfl rfl (by omega) (by omega) (RdC.old hR) (by rw [strs_length]; omega)) <| svg rfl (vldo pl9 rfl (RdC.old hR) hs) <| gy rfl <| clx (by repeat' (first | with_reducible exact Sb.all | exact Sb.nil | (apply Sb.cons; focus (first | ((repeat (first | with_reducible exact Tk.here | with_reducible apply Tk.there)); done) | ((repeat (first | exact Tk.here | apply Tk.there)); done))) | apply Sb.drop)) (disk_sync_at (by omega) hb) ct11 rfl fun r13 hr13 => ?_
              exact svg rfl (vT (veq rfl rfl) (by omega)) <| svg rfl (vmI rfl) <| svg rfl (vT (veq rfl rfl) (by omega)) <| svg rfl (vF (vneb Try.underlying4 rfl rfl) (by simp)) <| sv (vpkf rfl) <| WL.nil <| WX.mid () trivial ⟨rfl, trivial⟩ ⟨rfl, rfl, rfl, trivial⟩ (fun _ h => Sb.own (by repeat' (first | with_reducible exact Sb.all | exact Sb.nil | (apply Sb.cons; focus (first | ((repeat (first | with_reducible exact Tk.here | with_reducible apply Tk.there)); done) | ((repeat (first | exact Tk.here | apply Tk.there)); done))) | apply Sb.drop)) h)
            refine WC.ff rfl ?_
            exact WC.skip <| WX.blockN <| WX.thenN <| WC.region <| sv (vmI rfl) <| sv (vadd rfl rfl (by omega)) <| sv (vaI rfl) <| WL.nil <| WX.again (i + 1) (by omega) (by omega) ⟨rfl, trivial⟩ ⟨rfl, rfl, trivial⟩ (fun w h => hnd_mk hn (Sb.own (by repeat' (first | with_reducible exact Sb.all | exact Sb.nil | (apply Sb.cons; focus (first | ((repeat (first | with_reducible exact Tk.here | with_reducible apply Tk.there)); done) | ((repeat (first | exact Tk.here | apply Tk.there)); done))) | apply Sb.drop)) h))
    · -- else
      refine WC.ex (B := fun st => pdisk r1 st :: A) (fun w h => hnd_open h) ?_
      intro st hst
      refine WC.exit <| WX.thenE <| WX.thenE <| WX.blockH <| WX.thenN <| WC.seq <| WC.region <| sv (vmP rfl) <| clx (by repeat' (first | with_reducible exact Sb.all | exact Sb.nil | (apply Sb.cons; focus (first | ((repeat (first | with_reducible exact Tk.here | with_reducible apply Tk.there)); done) | ((repeat (first | exact Tk.here | apply Tk.there)); done))) | apply Sb.drop)) (disk_names hst.nm (by omega)) ct17 rfl fun r15 hr15 => ?_
      obtain ⟨base, c, l⟩ := r15
      obtain ⟨hno, hlc⟩ := hr15
      dsimp only at hno hlc ⊢
      obtain ⟨hlN, hlok⟩ := hno.few hst.nm
      refine sv (vaS rfl) <| WL.nil <| WX.thenN <| WC.seq <| WC.seq <| WC.region <| sv (vaI rfl) <| WL.nil <| WX.thenN <| WC.block <| ?_
      refine WC.loopS (ι := Nat) (fun i => [(7, .int .i64 i)]) [(0, .slice _ _ _), (6, .slice _ _ _)] (fun i => i ≤ l.length) (fun i => l.length - i) (0) (by omega) ⟨rfl, trivial⟩ ⟨rfl, rfl, trivial⟩ ?_
      intro k hk ρh
      refine WC.seq <| WC.seq <| WC.region <| sv (vmI rfl) <| sv (vmS rfl) <| sv (vlen Try.underlying36 rfl) <| sv (vlt rfl rfl) <| WL.nil <| WX.thenN <| ?_
      refine WC.ite rfl (fun h8 => ?_) (fun h8 => ?_)
      · -- then
        have hkl : k < l.length := by omega
        have hs : (strs l)[((k : Int)).toNat]? = some (.string l[k]) := by rw [Int.toNat_natCast]; exact strs_at hkl
        have hs1 : 0 < k → (strs l)[((k : Int) - 1).toNat]? = some (.string (l[k - 1]'(by omega))) := fun h => by rw [show ((k : Int) - 1).toNat = k - 1 by omega]; exact strs_at (by omega)
        have hkok : decide (okName l[k]) = true := decide_eq_true (hlok _ (List.getElem_mem hkl))
        refine WC.skip <| WX.thenN <| WC.seq <| WC.block <| ?_
        refine WC.cutS [(81, .bool false)] [(0, .slice _ _ _), (6, .slice _ _ _), (7, .int _ _)] ⟨rfl, rfl, rfl, trivial⟩ ?_ fun ρh => ?_
        · -- law.go:247
          refine WC.draws rfl (by kernel_rfl) <| qv (vmI rfl) <| qvs (vgt rfl rfl) (fun q1 => ?_) (fun q1 => ?_)
          ·
            refine qv (vmB rfl) <| qvg rfl (vmS rfl) <| qvg rfl (vmI rfl) <| qvg rfl (vsub rfl rfl (by omega)) <| qvg rfl (vix1 Try.underlying36 sz9 rfl rfl (by omega) (by omega) (RdC.of_row (c := c) (s := 1) (e := 9) (vs := strs l) (by simp)) (by rw [strs_length]; omega)) <| qvg rfl (vldo pl9 rfl (RdC.of_row (c := c) (s := 1) (e := 9) (vs := strs l) (by simp)) (hs1 (by omega))) <| qvg rfl (vmS rfl) <| qvg rfl (vmI rfl) <| qvg rfl (vix1 Try.underlying36 sz9 rfl rfl (by omega) (by omega) (RdC.of_row (c := c) (s := 1) (e := 9) (vs := strs l) (by simp)) (by rw [strs_length]; omega)) <| qvg rfl (vldo pl9 rfl (RdC.of_row (c := c) (s := 1) (e := 9) (vs := strs l) (by simp)) hs) <| qvbg rfl (vges rfl rfl) (fun q2 => ?_) (fun q2 => ?_)
            ·
              exact qv (vpkt rfl) <| qv (vmB rfl) <| qng rfl <| qng rfl <| qng rfl <| qng rfl <| qng rfl <| qng rfl <| qv (vpkt rfl) <| WQ.nil <| WX.mid () trivial ⟨(by have := hno.rise (i := k) (by omega) hkl; rw [this] at q2; cases q2), trivial⟩ ⟨rfl, rfl, rfl, trivial⟩ (fun _ h => Sb.own (by repeat' (first | with_reducible exact Sb.all | exact Sb.nil | (apply Sb.cons; focus (first | ((repeat (first | with_reducible exact Tk.here | with_reducible apply Tk.there)); done) | ((repeat (first | exact Tk.here | apply Tk.there)); done))) | apply Sb.drop)) h)
            ·
              exact qv (vpkt rfl) <| qv (vmB rfl) <| qvg rfl (vmS rfl) <| qvg rfl (vmI rfl) <| qvg rfl (vix1 Try.underlying36 sz9 rfl rfl (by omega) (by omega) (RdC.of_row (c := c) (s := 1) (e := 9) (vs := strs l) (by simp)) (by rw [strs_length]; omega)) <| qvg rfl (vldo pl9 rfl (RdC.of_row (c := c) (s := 1) (e := 9) (vs := strs l) (by simp)) hs) <| qclg rfl (Fun.quiet (hkok ▸ ref_name)) ct16 rfl <| qvg rfl (vnot rfl) <| qv (vpkf rfl) <| WQ.nil <| WX.mid () trivial ⟨rfl, trivial⟩ ⟨rfl, rfl, rfl, trivial⟩ (fun _ h => Sb.own (by repeat' (first | with_reducible exact Sb.all | exact Sb.nil | (apply Sb.cons; focus (first | ((repeat (first | with_reducible exact Tk.here | with_reducible apply Tk.there)); done) | ((repeat (first | exact Tk.here | apply Tk.there)); done))) | apply Sb.drop)) h)
          ·
            exact qv (vmB rfl) <| qng rfl <| qng rfl <| qng rfl <| qng rfl <| qng rfl <| qng rfl <| qng rfl <| qng rfl <| qng rfl <| qng rfl <| qv (vpkf rfl) <| qv (vmB rfl) <| qvg rfl (vmS rfl) <| qvg rfl (vmI rfl) <| qvg rfl (vix1 Try.underlying36 sz9 rfl rfl (by omega) (by omega) (RdC.of_row (c := c) (s := 1) (e := 9) (vs := strs l) (by simp)) (by rw [strs_length]; omega)) <| qvg rfl (vldo pl9 rfl (RdC.of_row (c := c) (s := 1) (e := 9) (vs := strs l) (by simp)) hs) <| qclg rfl (Fun.quiet (hkok ▸ ref_name)) ct16 rfl <| qvg rfl (vnot rfl) <| qv (vpkf rfl) <| WQ.nil <| WX.mid () trivial ⟨rfl, trivial⟩ ⟨rfl, rfl, rfl, trivial⟩ (fun _ h => Sb.own (by repeat' (first | with_reducible exact Sb.all | exact Sb.nil | (apply Sb.cons; focus (first | ((repeat (first | with_reducible exact Tk.here | with_reducible apply Tk.there)); done) | ((repeat (first | exact Tk.here | apply Tk.there)); done))) | apply Sb.drop)) h)
        refine WC.ff rfl ?_
        exact WC.skip <| WX.blockN <| WX.thenN <| WC.region <| sv (vmI rfl) <| sv (vadd rfl rfl (by omega)) <| sv (vaI rfl) <| WL.nil <| WX.again (k + 1) (by omega) (by omega) ⟨rfl, trivial⟩ ⟨rfl, rfl, trivial⟩ (fun _ h => Sb.own (by repeat' (first | with_reducible exact Sb.all | exact Sb.nil | (apply Sb.cons; focus (first | ((repeat (first | with_reducible exact Tk.here | with_reducible apply Tk.there)); done) | ((repeat (first | exact Tk.here | apply Tk.there)); done))) | apply Sb.drop)) h)
      · -- else
        refine WC.exit <| WX.thenE <| WX.thenE <| WX.blockH <| WX.thenN <| ?_
        refine WC.cutS [(2, .bool true)] [] trivial ?_ fun ρh => ?_
        · -- law.go:251
          refine WC.region <| clx (by repeat' (first | with_reducible exact Sb.all | exact Sb.nil | (apply Sb.cons; focus (first | ((repeat (first | with_reducible exact Tk.here | with_reducible apply Tk.there)); done) | ((repeat (first | exact Tk.here | apply Tk.there)); done))) | apply Sb.drop)) (law2_awake) ct15 rfl fun r25 hr25 => ?_
          exact sv (vmB rfl) <| svg rfl (vmS rfl) <| svg rfl (vlen Try.underlying36 rfl) <| svg rfl (vmS rfl) <| svg rfl (vlen Try.underlying36 rfl) <| svg rfl (vle rfl rfl) <| sv (vpkt rfl) <| sv (vaB rfl) <| WL.nil <| WX.mid () trivial ⟨(bT (by omega)).symm, trivial⟩ trivial (fun _ h => Sb.own (by repeat' (first | with_reducible exact Sb.all | exact Sb.nil | (apply Sb.cons; focus (first | ((repeat (first | with_reducible exact Tk.here | with_reducible apply Tk.there)); done) | ((repeat (first | exact Tk.here | apply Tk.there)); done))) | apply Sb.drop)) h)
        exact WC.ret <| WX.ret1 rfl (()) (trivial) rfl (fun _ h => Sb.own (by repeat' (first | with_reducible exact Sb.all | exact Sb.nil | (apply Sb.cons; focus (first | ((repeat (first | with_reducible exact Tk.here | with_reducible apply Tk.there)); done) | ((repeat (first | exact Tk.here | apply Tk.there)); done))) | apply Sb.drop)) h)
end Go.Proofs.Ytijbgeboaakmmaa
