/-
  Layer 3's law: lists of records held against one another, the document's examples.
-/
import Derived.Test.YtephlppgappcnaaJournalLawA
set_option linter.unusedVariables false
set_option linter.unusedSimpArgs false
set_option maxRecDepth 4000
namespace Go.Proofs.Ytephlppgappcnaa
open Go.Sl Go.RowKit Go.Pack Go.Journal

theorem bytes_eq {a b : List UInt8} : (⟨a.toArray⟩ : ByteArray) = ⟨b.toArray⟩ ↔ a = b := by
  constructor
  · intro h
    have := congrArg (fun x : ByteArray => x.data.toList) h
    simpa using this
  · rintro rfl; rfl
theorem take_succ_eq {a b : List (List UInt8)} {i : Nat} (ha : i < a.length) (hb : i < b.length) (h : a.take i = b.take i) (he : a[i] = b[i]) : a.take (i + 1) = b.take (i + 1) := by
  rw [List.take_succ_eq_append_getElem ha, List.take_succ_eq_append_getElem hb, h, he]
theorem law3_same {w0 : World} {A : List HProp} {b1 b2 : Option Addr} {c1 c2 n1 n2 : Nat} (l1 l2 : List (Sla UInt8)) (R1 : RdC w0 A b1 (bss l1)) (g1 : ∀ x ∈ l1, RdC w0 A x.base (u8s x.xs)) (R2 : RdC w0 A b2 (bss l2)) (g2 : ∀ x ∈ l2, RdC w0 A x.base (u8s x.xs)) (e1 : n1 = l1.length) (e2 : n2 = l2.length) (hl : l1.length ≤ 1099511627776) :
    Fun Try.prog w0 11 [.slice b1 n1 c1, .slice b2 n2 c2] A (Ret w0 (fun _ : Unit => True) (fun _ => .bool (decide (l1.map (·.xs) = l2.map (·.xs)))) (fun _ => A)) := by
  subst e1 e2
  refine Fun.enter Try.func11 rfl Try.ntmps11 rfl ?_
  refine WC.seq <| WC.region <| sv (vaB rfl) <| WL.nil <| WX.thenN <| WC.seq <| WC.seq <| WC.region <| sv (vmS rfl) <| sv (vlen Try.underlying28 rfl) <| sv (vmS rfl) <| sv (vlen Try.underlying28 rfl) <| sv (vne rfl rfl) <| WL.nil <| WX.thenN <| ?_
  refine WC.ite rfl (fun h1 => ?_) (fun h1 => ?_)
  · -- then
    exact WC.seq <| WC.region <| sv (vaB rfl) <| WL.nil <| WX.thenN <| WC.ret <| WX.thenR <| WX.ret1 rfl (()) (trivial) (bF (fun h => by have := congrArg List.length h; simp at this; omega)) (fun _ h => h)
  · -- else
    refine WC.skip <| WX.thenN <| WC.seq <| WC.seq <| WC.region <| sv (vaI rfl) <| WL.nil <| WX.thenN <| WC.block <| ?_
    refine WC.loop (ι := Nat) (fun i => [(5, .int .i64 i)]) [(0, .slice _ _ _), (1, .slice _ _ _)] (fun i => A) (fun i => i ≤ l1.length ∧ (l1.map (·.xs)).take i = (l2.map (·.xs)).take i) (fun i => l1.length - i) (0) (⟨Nat.zero_le _, by simp⟩) ⟨rfl, trivial⟩ ⟨rfl, rfl, trivial⟩ (fun _ h => h) ?_
    intro i hi ρh
    refine WC.seq <| WC.seq <| WC.region <| sv (vmI rfl) <| sv (vmS rfl) <| sv (vlen Try.underlying28 rfl) <| sv (vlt rfl rfl) <| WL.nil <| WX.thenN <| ?_
    refine WC.ite rfl (fun h2 => ?_) (fun h2 => ?_)
    · -- then
      have hi1 : i < l1.length := by omega
      have hi2 : i < l2.length := by omega
      refine WC.skip <| WX.thenN <| WC.seq <| WC.block <| WC.seq <| WC.draws rfl (by kernel_rfl) <| qv (vmS rfl) <| qv (vmI rfl) <| qv (vix1 Try.underlying28 sz22 rfl rfl (by omega) (by omega) R1 (by rw [bss_length]; omega)) <| qv (vldo pl22 rfl R1 (bss_at hi1)) <| qv (vstr Try.underlying22 Try.underlying5 Try.underlying9 rfl (g1 _ (List.getElem_mem hi1)) rfl) <| qv (vmS rfl) <| qv (vmI rfl) <| qv (vix1 Try.underlying28 sz22 rfl rfl (by omega) (by omega) R2 (by rw [bss_length]; omega)) <| qv (vldo pl22 rfl R2 (bss_at hi2)) <| qv (vstr Try.underlying22 Try.underlying5 Try.underlying9 rfl (g2 _ (List.getElem_mem hi2)) rfl) <| qv (vnes rfl rfl) <| WQ.nil <| WX.thenN <| ?_
      refine WC.ite rfl (fun h3 => ?_) (fun h3 => ?_)
      · -- then
        exact WC.seq <| WC.region <| sv (vaB rfl) <| WL.nil <| WX.thenN <| WC.ret <| WX.blockR <| WX.thenR <| WX.thenR <| WX.blockR <| WX.thenR <| WX.ret1 rfl (()) (trivial) (bF (fun h => h3 (bytes_eq.2 (by have := congrArg (fun l => l[i]?) h; simpa [hi1, hi2] using this)))) (fun _ h => h)
      · -- else
        exact WC.skip <| WX.blockN <| WX.thenN <| WC.region <| sv (vmI rfl) <| sv (vadd rfl rfl (by omega)) <| sv (vaI rfl) <| WL.nil <| WX.again (i + 1) (⟨by omega, take_succ_eq (by simpa using hi1) (by simpa using hi2) hi.2 (by simpa using bytes_eq.1 (Decidable.not_not.1 h3))⟩) (by omega) ⟨rfl, trivial⟩ ⟨rfl, rfl, trivial⟩ (fun _ h => h)
    · -- else
      exact WC.exit <| WX.thenE <| WX.thenE <| WX.blockH <| WX.thenN <| WC.seq <| WC.region <| sv (vaB rfl) <| WL.nil <| WX.thenN <| WC.ret <| WX.ret1 rfl (()) (trivial) (bT (by have := hi.2; rw [List.take_of_length_le (by simp; omega), List.take_of_length_le (by simp; omega)] at this; exact this)) (fun _ h => h)
theorem law3_same_true {w0 : World} {A : List HProp} {b1 b2 : Option Addr} {c1 c2 n1 n2 : Nat} (l1 l2 : List (Sla UInt8)) (R1 : RdC w0 A b1 (bss l1)) (g1 : ∀ x ∈ l1, RdC w0 A x.base (u8s x.xs)) (R2 : RdC w0 A b2 (bss l2)) (g2 : ∀ x ∈ l2, RdC w0 A x.base (u8s x.xs)) (e1 : n1 = l1.length) (e2 : n2 = l2.length) (hl : l1.length ≤ 1099511627776) (h : l1.map (·.xs) = l2.map (·.xs)) :
    Fun Try.prog w0 11 [.slice b1 n1 c1, .slice b2 n2 c2] A (Ret w0 (fun _ : Unit => True) (fun _ => .bool true) (fun _ => A)) := by
  have := law3_same (c1 := c1) (c2 := c2) l1 l2 R1 g1 R2 g2 e1 e2 hl
  rw [decide_eq_true h] at this
  exact this
theorem bss_take (l : List (Sla UInt8)) (k : Nat) : bss (l.take k) = (bss l).take k := by simp [bss]
theorem bD {p : Prop} [Decidable p] (h : p) : Value.bool (decide p) = .bool true := by simp [h]
theorem journal_add_at {w0 : World} {A : List HProp} {j d k c : Nat} {nm : ByteArray} {n : Int} {base : Option Addr} {rec : List UInt8} {st st' : DSt} (hR : RdC w0 A base (u8s rec)) (hk : k = rec.length) (hl : rec.length ≤ 1048576) (hs : nm.size ≤ 140737488351232) (hd : 0 ≤ st.deeds ∧ st.deeds + 2 ≤ 9223372036854775807) (hn : 0 ≤ n ∧ n + 1 ≤ 9223372036854775807) (h : addP nm rec st = (st', 0)) :
    Fun Try.prog w0 12 [.pointer (some ⟨j, 0, none⟩), .slice base k c] (cel j (jcells d nm n false) 70 :: pdisk d st :: A)
      (Ret w0 (fun _ : Unit => True) (fun _ => .int .i64 0) (fun _ => cel j (jcells d nm (n + 1) false) 70 :: pdisk d st' :: A)) := by
  have := journal_add_ok (j := j) (d := d) (c := c) hR hk hl hs hd hn
  rw [h] at this
  exact this
theorem journal_open_at {w0 : World} {A : List HProp} {d : Nat} {nm : ByteArray} {st st' : DSt} {recs : List (List UInt8)} (hd : 0 ≤ st.deeds ∧ st.deeds + 1 ≤ 9223372036854775807) (ho : openS nm st = (st', 0)) (hr : (recsB (readS nm st).1).1 = recs) :
    Fun Try.prog w0 10 [.pointer (some ⟨d, 0, none⟩), .string nm] (pdisk d st :: A)
      (Ret w0 (fun i : Nat × Option Addr × Nat × List (Sla UInt8) => i.2.2.2.map (·.xs) = recs ∧ i.2.2.2.length ≤ i.2.2.1)
        (fun i => .tuple #[.pointer (some ⟨i.1, 0, none⟩), .slice i.2.1 i.2.2.2.length i.2.2.1, .int .i64 0])
        (fun i => cel i.1 (jcells d nm i.2.2.2.length false) 70 :: pdisk d st' :: row i.2.1 i.2.2.1 1 22 (bss i.2.2.2) :: rows 5 i.2.2.2 :: A)) := by
  have := journal_open_ok (w0 := w0) (A := A) (d := d) hd ho
  rw [hr] at this
  exact this
def nmJ : ByteArray := ⟨#[106]⟩
theorem nmJ_ok : okName nmJ := by decide +kernel
theorem nmJ_len : nmJ.size ≤ 140737488351232 := by decide +kernel
theorem ex_recs : recsB ([] ++ frameB [97, 98] ++ frameB [] ++ [5]) = ([[97, 98], []], [5]) := by
  have h5 : recsB [5] = ([], [5]) := recsB_none (by simp [nextB])
  have := recsB_flat [[97, 98], []] [5] (by simp)
  rw [h5] at this
  simpa [flat] using this
theorem law3_awake {w0 : World} {A : List HProp} : Fun Try.prog w0 13 [] A (Ret w0 (fun _ : Unit => True) (fun _ => .bool true) (fun _ => A)) := by
  obtain ⟨s1, n1, e1, f1, l1, m1, _⟩ := Fl.new.open (nm := nmJ) nmJ_ok
  have hr1 : (recsB (readS nmJ newD).1).1 = [] := by rw [Fl.new.read, recsB_nil]
  have hz : flat (recsB []).1 = [] := by rw [recsB_nil]; rfl
  rw [hz] at f1
  obtain ⟨s2, e2, f2, _⟩ := f1.add (b := [97, 98]) nmJ_ok (by decide)
  obtain ⟨s3, e3, f3, _⟩ := f2.add (b := []) nmJ_ok (by rw [List.length_append, frameB_len]; decide)
  obtain ⟨s4, e4, f4, _⟩ := f3.append (b := [5]) nmJ_ok (by rw [List.length_append, List.length_append, frameB_len, frameB_len]; decide)
  obtain ⟨s5, n5, e5, f5, l5, m5, _⟩ := f4.open nmJ_ok
  have hr5 : (recsB (readS nmJ s4).1).1 = [[97, 98], []] := by rw [f4.read, ex_recs]
  have d1 := f1.deeds; have d2 := f2.deeds; have d3 := f3.deeds; have d4 := f4.deeds
  refine Fun.enter Try.func13 rfl Try.ntmps13 rfl ?_
  refine WC.seq <| WC.region <| sv (vaB rfl) <| WL.nil <| WX.thenN <| WC.seq <| WC.region <| cl (disk_new) ct8 rfl fun d _ => sv (vaP rfl) <| WL.nil <| WX.thenN <| WC.seq <| WC.region <| sv (vmP rfl) <| cl (journal_open_at (nm := nmJ) (by decide) e1 hr1) ct10 rfl fun i2 hi2 => ?_
  obtain ⟨hi2, _⟩ := hi2
  have hl2 : i2.2.2.2.length = 0 := by have := congrArg List.length hi2; simpa using this
  refine sv vmv <| sv (vex rfl rfl) <| sv (vex rfl rfl) <| sv (vex rfl rfl) <| sv (vaP rfl) <| sv (vaS rfl) <| sv (vaI rfl) <| WL.nil <| WX.thenN <| WC.seq <| ?_
  refine WC.cut0 [(26, .bool false)] [(1, .pointer _), (2, .pointer _)] (cel i2.1 (jcells d nmJ i2.2.2.2.length false) 70 :: pdisk d s1 :: row i2.2.1 i2.2.2.1 1 22 (bss i2.2.2.2) :: rows 5 i2.2.2.2 :: A) ⟨rfl, rfl, trivial⟩ ?_ fun ρh => ?_
  · -- law.go:51
    exact WC.region <| sv (vmP rfl) <| sv (vpeqF Try.underlying27 rfl rfl) <| sv (vmB rfl) <| svg rfl (vmI rfl) <| svg rfl (vF (vne rfl rfl) (by omega)) <| sv (vpkf rfl) <| sv (vmB rfl) <| svg rfl (vmS rfl) <| svg rfl (vlen Try.underlying28 rfl) <| svg rfl (vF (vne rfl rfl) (by omega)) <| sv (vpkf rfl) <| WL.nil <| WX.mid () trivial ⟨rfl, trivial⟩ ⟨rfl, rfl, trivial⟩ (fun _ h => h)
  refine WC.ff rfl ?_
  refine WC.skip <| WX.thenN <| WC.seq <| WC.region <| sv (vmP rfl) <| bslb [97, 98] rfl Try.underlying22 zt5 (by simp [enumP, ev, u8s, u8v]) (by decide) fun b4 => cvm Try.underlying22 Try.underlying5 rfl <| pm (fun _ h => h.pk2.pk2) <| cl (journal_add_at (nm := nmJ) (rec := [97, 98]) reads rfl (by decide) nmJ_len (by omega) (by omega) e2) ct12 rfl fun _ _ => sv (vaI rfl) <| WL.nil <| WX.thenN <| WC.seq <| WC.region <| sv (vmP rfl) <| cl (journal_add_at (nm := nmJ) (rec := []) RdC.nil rfl (by decide) nmJ_len (by omega) (by omega) e3) ct12 rfl fun _ _ => sv (vaI rfl) <| WL.nil <| WX.thenN <| WC.seq <| WC.region <| sv (vmP rfl) <| cl (journal_len) ct16 rfl fun _ _ => sv (vaI rfl) <| WL.nil <| WX.thenN <| WC.seq <| WC.region <| sv (vmP rfl) <| bslb [5] rfl Try.underlying22 zt5 (by simp [enumP, ev, u8s, u8v]) (by decide) fun b9 => pm (fun _ h => h.pk2) <| cl (disk_append_at (nm := nmJ) (b := [5]) nmJ_len (by omega) (by decide) rfl e4) ct9 rfl fun _ _ => sv (vaI rfl) <| WL.nil <| WX.thenN <| WC.seq <| WC.region <| sv (vmP rfl) <| cl (journal_open_at (nm := nmJ) (by omega) e5 hr5) ct10 rfl fun i11 hi11 => ?_
  obtain ⟨hi11, _⟩ := hi11
  have hl11 : i11.2.2.2.length = 2 := by have := congrArg List.length hi11; simpa using this
  refine sv vmv <| sv (vex rfl rfl) <| sv (vex rfl rfl) <| sv (vex rfl rfl) <| sv (vaS rfl) <| sv (vaI rfl) <| WL.nil <| WX.thenN <| ?_
  refine WC.cut0 [(0, .bool true)] [] (A) trivial ?_ fun ρh => ?_
  · -- law.go:59
    exact WC.region <| sv (vmI rfl) <| sv (vT (veq rfl rfl) (by omega)) <| sv (vmB rfl) <| svg rfl (vmI rfl) <| svg rfl (vT (veq rfl rfl) (by omega)) <| sv (vpkt rfl) <| sv (vmB rfl) <| svg rfl (vmI rfl) <| svg rfl (vT (veq rfl rfl) (by omega)) <| sv (vpkt rfl) <| sv (vmB rfl) <| svg rfl (vmI rfl) <| svg rfl (vT (veq rfl rfl) (by omega)) <| sv (vpkt rfl) <| sv (vmB rfl) <| svg rfl (vmI rfl) <| svg rfl (vT (veq rfl rfl) (by omega)) <| sv (vpkt rfl) <| sv (vmB rfl) <| svg rfl (vmS rfl) <| gy rfl <| bslb [97, 98] rfl Try.underlying22 zt5 (by simp [enumP, ev, u8s, u8v]) (by decide) fun b12 => gy rfl <| cvm Try.underlying22 Try.underlying5 rfl <| gy rfl <| bsln [.slice _ _ _, .slice _ _ _] Try.underlying28 zt22 rfl rfl (by intro v hv; simp only [List.mem_cons, List.not_mem_nil, or_false] at hv; rcases hv with rfl | rfl <;> rfl) (by simp) fun b14 => gy rfl <| cl (law3_same i11.2.2.2 [⟨some ⟨b12, 0, none⟩, [97, 98], 2⟩, ⟨none, [], 0⟩] reads (fun x hx => RdC.of_rows (e := 5) (by simp) hx) (RdC.of_cel 0 (List.Mem.head _) (List.prefix_refl _)) (fun x hx => by rcases List.mem_cons.1 hx with rfl | hx; exact RdC.of_cel 0 (List.Mem.tail _ (List.Mem.head _)) (List.prefix_refl _); obtain rfl := List.mem_singleton.1 hx; exact RdC.nil) rfl rfl (by omega)) ct11 rfl fun _ _ => sv (vpkt rfl) <| sv (vaB rfl) <| WL.nil <| WX.mid () trivial ⟨bD hi11, trivial⟩ trivial (fun w h => h.suf)
  exact WC.ret <| WX.ret1 rfl (()) (trivial) rfl (fun _ h => h)
end Go.Proofs.Ytephlppgappcnaa
