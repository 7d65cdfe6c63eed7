/-
  What the document's reader of layer 1 computes: contracts, walked from the translation.
-/
import Derived.Test.YtbmfcfddbcbdgaaPackSpecD
import Derived.Test.YtbmfcfddbcbdgaaSlOwn
set_option linter.unusedVariables false
set_option linter.unusedSimpArgs false
set_option maxRecDepth 4000
namespace Go.Proofs.Ytbmfcfddbcbdgaa
open Go.Sl Go.Pack Go.RowKit

theorem u8s_getD {bs : List UInt8} {i : Nat} (h : i < bs.length) : (u8s bs)[((i : Int)).toNat]? = some (u8v (bs.getD i 0)) := by
  have : ((i : Int)).toNat = i := by omega
  rw [this, u8s_at h, List.getD_eq_getElem?_getD, List.getElem?_eq_getElem h]; rfl
theorem lebval_drop : ∀ (l : List UInt8) (k : Nat), lebval (l.drop k) ≤ lebval l
  | l, 0 => by simp
  | [], k + 1 => by simp
  | c :: r, k + 1 => by
    have := lebval_drop r k
    simp only [List.drop_succ_cons, lebval]; omega
theorem lebval_step {l : List UInt8} {m : Nat} (h : m < l.length) : lebval (l.drop m) = (l.getD m 0).toNat % 128 + 128 * lebval (l.drop (m + 1)) := by
  rw [List.drop_eq_getElem_cons h, lebval, List.getD_eq_getElem?_getD, List.getElem?_eq_getElem h]; rfl
theorem take_ok {bs : List UInt8} (h : okEnd 0 bs) : take bs = some (zag (lebval (bs.take (lead bs + 1))), lead bs + 1) ∧ lebval (bs.take (lead bs + 1)) < 18446744073709551616 := by
  have h1 := (rdn_spec bs 0 0 (by omega)).1 h
  have h2 := (rdn_lt bs 0 0 (by decide) (by omega) _ h1).1
  simp at h1 h2
  exact ⟨by unfold take; rw [h1]; rfl, h2⟩
theorem take_no {bs : List UInt8} (h : ¬ okEnd 0 bs) : take bs = none := by
  unfold take; rw [(rdn_spec bs 0 0 (by omega)).2 h]; rfl
theorem ref_acc {z c : Nat} (h : c % 128 + 128 * z < 18446744073709551616) (hc : c < 256) : IntKind.u64.wrap (IntKind.u64.wrap ((z : Int) * 128) + (IntKind.u64.wrap (c : Int)).tmod 128) = ((c % 128 + 128 * z : Nat) : Int) := by
  rw [wrap_u64 (a := (c : Int)) (by omega), wrap_u64 (a := (z : Int) * 128) (by omega)]
  have : ((c : Int)).tmod 128 = ((c % 128 : Nat) : Int) := by
    rw [Int.tmod_eq_emod_of_nonneg (by omega)]; omega
  rw [this, wrap_u64 (by omega)]
  omega
theorem ref_even {z : Nat} (h : z < 18446744073709551616) : IntKind.i64.wrap (IntKind.u64.wrap ((z : Int).tdiv 2)) = ((z / 2 : Nat) : Int) := by
  have : ((z : Int)).tdiv 2 = ((z / 2 : Nat) : Int) := by rw [Int.tdiv_eq_ediv_of_nonneg (by omega)]; omega
  rw [this, wrap_u64 (by omega), IntKind.wrap_i64]
  omega
theorem ref_odd {z : Nat} (h : z < 18446744073709551616) : IntKind.i64.wrap (0 - IntKind.i64.wrap (IntKind.u64.wrap ((z : Int).tdiv 2))) = -((z / 2 : Nat) : Int) := by
  rw [ref_even h, IntKind.wrap_i64]
  omega
theorem tmod2 {z : Nat} : ((z : Int)).tmod 2 = ((z % 2 : Nat) : Int) := by
  rw [Int.tmod_eq_emod_of_nonneg (by omega)]; omega
theorem tup2 {a b c d : Int} (h1 : a = c) (h2 : b = d) : Value.tuple #[.int .i64 a, .int .i64 b] = Value.tuple #[.int .i64 c, .int .i64 d] := by rw [h1, h2]
theorem ref_take {w0 : World} {A : List HProp} {base : Option Addr} {c : Nat} {bs : List UInt8} [hR : Reads w0 A base (u8s bs)] (hb : bs.length ≤ 140737488355328) :
    Fun Try.prog w0 29 [.slice base bs.length c] A
      (Ret w0 (fun _ : Unit => True) (fun _ => .tuple #[.int .i64 (((take bs).map (·.1)).getD 0), .int .i64 ((((take bs).map (·.2)).getD 0 : Nat) : Int)]) (fun _ => A)) := by
  refine Fun.enter Try.func29 rfl Try.ntmps29 rfl ?_
  refine WC.seq <| WC.region <| sv (vaI rfl) <| sv (vaI rfl) <| WL.nil <| WX.thenN <| WC.seq <| WC.region <| sv (vaI rfl) <| WL.nil <| WX.thenN <| WC.seq <| WC.block <| ?_
  refine WC.loop (ι := Nat) (fun i => [(4, .int .i64 i)]) [(0, .slice _ _ _)] (fun i => A) (fun i => i ≤ bs.length ∧ ∀ j, j < i → 128 ≤ (bs.getD j 0).toNat) (fun i => bs.length - i) (0) (⟨by omega, fun j h => by omega⟩) ⟨rfl, trivial⟩ ⟨rfl, trivial⟩ (fun _ h => h) ?_
  rintro n ⟨hn, hj⟩ ρh
  refine WC.seq <| ?_
  refine WC.cut0 [(17, .bool (decide (n < bs.length ∧ 128 ≤ (bs.getD n 0).toNat)))] [(0, .slice _ _ _), (4, .int _ _)] (A) ⟨rfl, rfl, trivial⟩ ?_ fun ρh => ?_
  · -- ref.go:31
    refine WC.region <| sv (vmI rfl) <| sv (vmS rfl) <| sv (vlen Try.underlying22 rfl) <| svs (vlt rfl rfl) (fun q1 => ?_) (fun q1 => ?_)
    ·
      exact sv (vmB rfl) <| svg rfl (vmS rfl) <| svg rfl (vmI rfl) <| svg rfl (vixb Try.underlying22 sz5 rfl rfl (by omega) (by omega) (by omega)) <| svg rfl (vldr pl5 rfl (u8s_getD (by omega))) <| svg rfl (vge rfl rfl) <| sv (vpkt rfl) <| WL.nil <| WX.mid () trivial ⟨bI (by first | omega | simp_all | grind), trivial⟩ ⟨rfl, rfl, trivial⟩ (fun _ h => h)
    ·
      exact sv (vmB rfl) <| sng rfl <| sng rfl <| sng rfl <| sng rfl <| sng rfl <| sv (vpkf rfl) <| WL.nil <| WX.mid () trivial ⟨bF (by first | omega | simp_all | grind), trivial⟩ ⟨rfl, rfl, trivial⟩ (fun _ h => h)
  refine WC.ite rfl (fun h1 => ?_) (fun h1 => ?_)
  · -- then
    exact WC.skip <| WX.thenN <| WC.block <| WC.region <| sv (vmI rfl) <| sv (vadd rfl rfl (by omega)) <| sv (vaI rfl) <| WL.nil <| WX.blockN <| WX.again (n + 1) (⟨by omega, fun j h => by rcases Nat.lt_succ_iff_lt_or_eq.1 h with h | rfl; exact hj j h; exact h1.2⟩) (by omega) ⟨rfl, trivial⟩ ⟨rfl, trivial⟩ (fun _ h => h)
  · -- else
    have hl : lead bs = n := lead_eq bs n hn hj (fun h => by omega)
    refine WC.exit <| WX.thenE <| WX.thenE <| WX.blockH <| WX.thenN <| WC.seq <| ?_
    refine WC.cut0 [(49, .bool (decide (¬ (n < bs.length ∧ n ≤ 9 ∧ ¬ (0 < n ∧ (bs.getD n 0).toNat = 0) ∧ ¬ (n = 9 ∧ (bs.getD n 0).toNat ≠ 1)))))] [(0, .slice _ _ _), (4, .int _ _)] (A) ⟨rfl, rfl, trivial⟩ ?_ fun ρh => ?_
    · -- ref.go:34
      refine WC.region <| sv (vmI rfl) <| sv (vmS rfl) <| sv (vlen Try.underlying22 rfl) <| svs (vge rfl rfl) (fun q2 => ?_) (fun q2 => ?_)
      ·
        exact sv (vmB rfl) <| sng rfl <| sng rfl <| sv (vpkt rfl) <| sv (vmB rfl) <| sng rfl <| sng rfl <| sng rfl <| sng rfl <| sng rfl <| sng rfl <| sng rfl <| sng rfl <| sng rfl <| sv (vpkt rfl) <| sv (vmB rfl) <| sng rfl <| sng rfl <| sng rfl <| sng rfl <| sng rfl <| sng rfl <| sng rfl <| sng rfl <| sng rfl <| sv (vpkt rfl) <| WL.nil <| WX.mid () trivial ⟨bT (by first | omega | simp_all | grind), trivial⟩ ⟨rfl, rfl, trivial⟩ (fun _ h => h)
      ·
        refine sv (vmB rfl) <| svg rfl (vmI rfl) <| svsg rfl (vgt rfl rfl) (fun q3 => ?_) (fun q3 => ?_)
        ·
          exact sv (vpkf rfl) <| sv (vmB rfl) <| sng rfl <| sng rfl <| sng rfl <| sng rfl <| sng rfl <| sng rfl <| sng rfl <| sng rfl <| sng rfl <| sv (vpkt rfl) <| sv (vmB rfl) <| sng rfl <| sng rfl <| sng rfl <| sng rfl <| sng rfl <| sng rfl <| sng rfl <| sng rfl <| sng rfl <| sv (vpkt rfl) <| WL.nil <| WX.mid () trivial ⟨bT (by first | omega | simp_all | grind), trivial⟩ ⟨rfl, rfl, trivial⟩ (fun _ h => h)
        ·
          refine sv (vpkf rfl) <| sv (vmB rfl) <| svg rfl (vmI rfl) <| svsg rfl (vgt rfl rfl) (fun q4 => ?_) (fun q4 => ?_)
          ·
            refine svg rfl (vmB rfl) <| svg rfl (vmS rfl) <| svg rfl (vmI rfl) <| svg rfl (vixb Try.underlying22 sz5 rfl rfl (by omega) (by omega) (by omega)) <| svg rfl (vldr pl5 rfl (u8s_getD (by omega))) <| svsg rfl (veq rfl rfl) (fun q5 => ?_) (fun q5 => ?_)
            ·
              exact svg rfl (vpkt rfl) <| sv (vpkf rfl) <| sv (vmB rfl) <| sng rfl <| sng rfl <| sng rfl <| sng rfl <| sng rfl <| sng rfl <| sng rfl <| sng rfl <| sng rfl <| sv (vpkt rfl) <| WL.nil <| WX.mid () trivial ⟨bT (by first | omega | simp_all | grind), trivial⟩ ⟨rfl, rfl, trivial⟩ (fun _ h => h)
            ·
              refine svg rfl (vpkt rfl) <| sv (vpkf rfl) <| sv (vmB rfl) <| svg rfl (vmI rfl) <| svsg rfl (veq rfl rfl) (fun q6 => ?_) (fun q6 => ?_)
              ·
                exact svg rfl (vmB rfl) <| svg rfl (vmS rfl) <| svg rfl (vmI rfl) <| svg rfl (vixb Try.underlying22 sz5 rfl rfl (by omega) (by omega) (by omega)) <| svg rfl (vldr pl5 rfl (u8s_getD (by omega))) <| svg rfl (vne rfl rfl) <| svg rfl (vpkt rfl) <| sv (vpkf rfl) <| WL.nil <| WX.mid () trivial ⟨bI (by first | omega | simp_all | grind), trivial⟩ ⟨rfl, rfl, trivial⟩ (fun _ h => h)
              ·
                exact svg rfl (vmB rfl) <| sng rfl <| sng rfl <| sng rfl <| sng rfl <| sng rfl <| svg rfl (vpkf rfl) <| sv (vpkf rfl) <| WL.nil <| WX.mid () trivial ⟨bF (by first | omega | simp_all | grind), trivial⟩ ⟨rfl, rfl, trivial⟩ (fun _ h => h)
          ·
            refine svg rfl (vmB rfl) <| sng rfl <| sng rfl <| sng rfl <| sng rfl <| sng rfl <| svg rfl (vpkf rfl) <| sv (vpkf rfl) <| sv (vmB rfl) <| svg rfl (vmI rfl) <| svsg rfl (veq rfl rfl) (fun q7 => ?_) (fun q7 => ?_)
            ·
              exact svg rfl (vmB rfl) <| svg rfl (vmS rfl) <| svg rfl (vmI rfl) <| svg rfl (vixb Try.underlying22 sz5 rfl rfl (by omega) (by omega) (by omega)) <| svg rfl (vldr pl5 rfl (u8s_getD (by omega))) <| svg rfl (vne rfl rfl) <| svg rfl (vpkt rfl) <| sv (vpkf rfl) <| WL.nil <| WX.mid () trivial ⟨bI (by first | omega | simp_all | grind), trivial⟩ ⟨rfl, rfl, trivial⟩ (fun _ h => h)
            ·
              exact svg rfl (vmB rfl) <| sng rfl <| sng rfl <| sng rfl <| sng rfl <| sng rfl <| svg rfl (vpkf rfl) <| sv (vpkf rfl) <| WL.nil <| WX.mid () trivial ⟨bF (by first | omega | simp_all | grind), trivial⟩ ⟨rfl, rfl, trivial⟩ (fun _ h => h)
    refine WC.ite rfl (fun h2 => ?_) (fun h2 => ?_)
    · -- then
      have ht := take_no (bs := bs) (by unfold okEnd; rw [hl]; omega)
      exact WC.seq <| WC.region <| sv (vaI rfl) <| sv (vaI rfl) <| WL.nil <| WX.thenN <| WC.ret <| WX.thenR <| WX.ret2 rfl (()) (trivial) (by rw [ht]; rfl) (fun _ h => h)
    · -- else
      have hok : okEnd 0 bs := by unfold okEnd; rw [hl]; omega
      obtain ⟨ht, hz⟩ := take_ok hok
      rw [hl] at ht hz
      refine WC.skip <| WX.thenN <| WC.seq <| WC.region <| sv (vaI rfl) <| WL.nil <| WX.thenN <| WC.seq <| WC.seq <| WC.region <| sv (vmI rfl) <| sv (vaI rfl) <| WL.nil <| WX.thenN <| WC.block <| ?_
      refine WC.loop (ι := Nat) (fun i => [(5, .int .u64 (lebval ((bs.take (n + 1)).drop i))), (6, .int .i64 ((i : Int) - 1))]) [(0, .slice _ _ _), (4, .int _ _)] (fun i => A) (fun i => i ≤ n + 1) (fun i => i) (n + 1) (by omega) ⟨iv (by simp [lebval]), iv (by omega), trivial⟩ ⟨rfl, rfl, trivial⟩ (fun _ h => h) ?_
      intro i hi ρh
      refine WC.seq <| WC.seq <| WC.region <| sv (vmI rfl) <| sv (vge rfl rfl) <| WL.nil <| WX.thenN <| ?_
      refine WC.ite rfl (fun h3 => ?_) (fun h3 => ?_)
      · -- then
        obtain ⟨m, rfl⟩ : ∃ m, i = m + 1 := ⟨i - 1, by omega⟩
        have hi1 : (((m + 1 : Nat) : Int) - 1) = (m : Int) := by omega
        rw [hi1]
        have hs := lebval_step (l := bs.take (n + 1)) (m := m) (by simp; omega)
        have hg : (bs.take (n + 1)).getD m 0 = bs.getD m 0 := by rw [List.getD_eq_getElem?_getD, List.getD_eq_getElem?_getD, List.getElem?_take_of_lt (by omega)]
        rw [hg] at hs
        have hle := lebval_drop (bs.take (n + 1)) m
        have hacc := ref_acc (z := lebval ((bs.take (n + 1)).drop (m + 1))) (c := (bs.getD m 0).toNat) (by omega) (UInt8.toNat_lt _)
        exact WC.skip <| WX.thenN <| WC.seq <| WC.block <| WC.region <| sv (vmI rfl) <| sv (vmulr rfl rfl) <| sv (vmS rfl) <| sv (vmI rfl) <| sv (vixb Try.underlying22 sz5 rfl rfl (by omega) (by omega) (by omega)) <| sv (vldr pl5 rfl (u8s_getD (by omega))) <| sv (vcv is5 Try.underlying47 rfl) <| sv (vrem rfl rfl (by decide)) <| sv (vaddr rfl rfl) <| sv (vaI rfl) <| WL.nil <| WX.blockN <| WX.thenN <| WC.region <| sv (vmI rfl) <| sv (vsub rfl rfl (by omega)) <| sv (vaI rfl) <| WL.nil <| WX.again (m) (by omega) (by omega) ⟨iv (by rw [hs]; exact hacc), rfl, trivial⟩ ⟨rfl, rfl, trivial⟩ (fun _ h => h)
      · -- else
        have hi0 : i = 0 := by omega
        subst hi0
        simp only [List.drop_zero]
        have hev := ref_even hz
        have hod := ref_odd hz
        have h2m := tmod2 (z := lebval (bs.take (n + 1)))
        refine WC.exit <| WX.thenE <| WX.thenE <| WX.blockH <| WX.thenN <| WC.seq <| WC.seq <| WC.region <| sv (vmI rfl) <| sv (vrem rfl rfl (by decide)) <| sv (veq rfl rfl) <| WL.nil <| WX.thenN <| ?_
        refine WC.ite rfl (fun h4 => ?_) (fun h4 => ?_)
        · -- then
          have hzag : zag (lebval (bs.take (n + 1))) = ((lebval (bs.take (n + 1)) / 2 : Nat) : Int) := by unfold zag; rw [if_pos (by omega)]
          exact WC.seq <| WC.region <| sv (vmI rfl) <| sv (vquo rfl rfl (by decide)) <| sv (vcv is47 Try.underlying3 rfl) <| sv (vmI rfl) <| sv (vadd rfl rfl (by omega)) <| sv (vaI rfl) <| sv (vaI rfl) <| WL.nil <| WX.thenN <| WC.ret <| WX.thenR <| WX.ret2 rfl (()) (trivial) (by rw [ht]; exact tup2 (by rw [hev, ← hzag]; rfl) rfl) (fun _ h => h)
        · -- else
          have hzag : zag (lebval (bs.take (n + 1))) = -((lebval (bs.take (n + 1)) / 2 : Nat) : Int) - 1 := by unfold zag; rw [if_neg (by omega)]
          exact WC.skip <| WX.thenN <| WC.seq <| WC.region <| sv (vmI rfl) <| sv (vquo rfl rfl (by decide)) <| sv (vcv is47 Try.underlying3 rfl) <| sv (vneg rfl) <| sv (vsub rfl rfl (by omega)) <| sv (vmI rfl) <| sv (vadd rfl rfl (by omega)) <| sv (vaI rfl) <| sv (vaI rfl) <| WL.nil <| WX.thenN <| WC.ret <| WX.ret2 rfl (()) (trivial) (by rw [ht]; exact tup2 (by rw [hod, ← hzag]; rfl) rfl) (fun _ h => h)

/-- The document's reader: what is left of bytes that were there before; none: there was a fault. -/
def rread (w0 : World) (r : Nat) (st : Option (List UInt8)) : HProp := fun h => ∃ base c bs, (bs.length ≤ c ∧ Rd w0 base (u8s bs) ∧ ∀ b, st = some b → bs = b) ∧ cel r [.slice base bs.length c, .bool st.isNone] 41 h
theorem rread_open {w0 w : World} {r : Nat} {st : Option (List UInt8)} {A : List HProp} (H : Own w0 (rread w0 r st :: A) w) :
    ∃ x : Option Addr × Nat × List UInt8, (x.2.2.length ≤ x.2.1 ∧ Rd w0 x.1 (u8s x.2.2) ∧ ∀ b, st = some b → x.2.2 = b) ∧ Own w0 (cel r [.slice x.1 x.2.2.length x.2.1, .bool st.isNone] 41 :: A) w := by
  obtain ⟨hb, h, ⟨h1, h2, ⟨base, c, bs, hc, a⟩, a2, d, x⟩, hw⟩ := H
  exact ⟨(base, c, bs), hc, hb, h, ⟨h1, h2, a, a2, d, x⟩, hw⟩
theorem rread_mk {w0 w : World} {r : Nat} {st : Option (List UInt8)} {A : List HProp} {base : Option Addr} {c : Nat} {bs : List UInt8} (hc : bs.length ≤ c) (hr : Rd w0 base (u8s bs)) (hs : ∀ b, st = some b → bs = b) (H : Own w0 (cel r [.slice base bs.length c, .bool st.isNone] 41 :: A) w) :
    Own w0 (rread w0 r st :: A) w := H.head fun _ h => ⟨base, c, bs, ⟨hc, hr, hs⟩, h⟩
theorem rd_drop {w0 : World} {base : Option Addr} {bs : List UInt8} (h : Rd w0 base (u8s bs)) (k c : Nat) (hc : bs.length ≤ c) : Rd w0 (slB base k c 1) (u8s (bs.drop k)) := by
  intro j v hv
  have hj : j < (bs.drop k).length := by
    have := (List.getElem?_eq_some_iff.1 hv).1
    simpa using this
  have hk : c ≠ k := by simp at hj; omega
  rw [← u8s_drop, List.getElem?_drop] at hv
  obtain ⟨a, rfl, ha⟩ := h _ v hv
  refine ⟨a.add k, by simp [slB, hk], ?_⟩
  rw [Addr.add_add]; exact ha
theorem take_le {bs : List UInt8} {p : Int × Nat} (h : take bs = some p) : 0 < p.2 ∧ p.2 ≤ bs.length := by
  obtain ⟨x, k⟩ := p
  obtain ⟨hn, hk⟩ := num_take h
  have h2 := leb_pos (zig x)
  have := congrArg List.length hn
  unfold num at *
  simp at this ⊢
  omega
theorem rref_num {w0 : World} {A : List HProp} {r : Nat} {st : Option (List UInt8)} (hb : ∀ b, st = some b → b.length ≤ 140737488355328) :
    Fun Try.prog w0 21 [.pointer (some ⟨r, 0, none⟩)] (rread w0 r st :: A)
      (Ret w0 (fun _ : Unit => True) (fun _ => .int .i64 (((st.bind take).map (·.1)).getD 0)) (fun _ => rread w0 r (st.bind fun bs => (take bs).map fun p => bs.drop p.2) :: A)) := by
  refine Fun.ex (fun w h => rread_open h) ?_
  rintro ⟨base, c, bs⟩ ⟨hc, hr, hs⟩
  dsimp only at hc hr hs ⊢
  refine Fun.enter Try.func21 rfl Try.ntmps21 rfl ?_
  refine WC.seq <| WC.region <| sv (vaI rfl) <| WL.nil <| WX.thenN <| WC.seq <| WC.seq <| WC.region <| sv (vmP rfl) <| sv (vnil rfl) <| sv (vfld fl41f1 rfl) <| sv (vldc pl4 rfl) <| WL.nil <| WX.thenN <| ?_
  refine WC.iteb rfl (fun h1 => ?_) (fun h1 => ?_)
  · -- then
    obtain rfl : st = none := by simpa using h1
    exact WC.seq <| WC.region <| sv (vaI rfl) <| WL.nil <| WX.thenN <| WC.ret <| WX.thenR <| WX.ret1 rfl (()) (trivial) rfl (fun w h => rread_mk hc hr (fun b h => by cases h) h)
  · -- else
    obtain ⟨b, rfl⟩ : ∃ b, st = some b := by cases st <;> simp_all
    obtain rfl := hs b rfl
    have hbl := hb _ rfl
    have hpos := fun p => take_le (bs := bs) (p := p)
    refine WC.skip <| WX.thenN <| WC.seq <| WC.region <| sv (vmP rfl) <| sv (vnil rfl) <| sv (vfld fl41f0 rfl) <| sv (vldc pl22 rfl) <| cl (ref_take (hR := ⟨RdC.old hr⟩) hbl) ct29 rfl fun _ _ => sv vmv <| sv (vex rfl rfl) <| sv (vex rfl rfl) <| sv (vaI rfl) <| sv (vaI rfl) <| WL.nil <| WX.thenN <| WC.seq <| WC.seq <| WC.region <| sv (vmI rfl) <| sv (veq rfl rfl) <| WL.nil <| WX.thenN <| ?_
    refine WC.ite rfl (fun h2 => ?_) (fun h2 => ?_)
    · -- then
      have ht : take bs = none := by
        cases ht : take bs with
        | none => rfl
        | some p => have := hpos p ht; simp [ht] at h2; omega
      exact WC.seq <| WC.region <| sv (vmP rfl) <| sv (vnil rfl) <| sv (vfld fl41f1 rfl) <| stc (v := .bool _) pl4 sz4 rfl rfl rfl <| WL.nil <| WX.thenN <| WC.seq <| WC.region <| sv (vaI rfl) <| WL.nil <| WX.thenN <| WC.ret <| WX.thenR <| WX.ret1 rfl (()) (trivial) (by simp only [Option.bind_some, ht]; rfl) (fun w h => rread_mk hc hr (fun b h => by simp [ht] at h) (by simpa [ht] using h))
    · -- else
      obtain ⟨p, ht⟩ : ∃ p, take bs = some p := by
        cases ht : take bs with
        | none => simp [ht] at h2
        | some p => exact ⟨p, rfl⟩
      have hp := hpos p ht
      simp only [ht, Option.map_some, Option.getD_some, Option.bind_some]
      refine WC.skip <| WX.thenN <| WC.seq <| WC.region <| sv (vmP rfl) <| sv (vmP rfl) <| sv (vnil rfl) <| sv (vfld fl41f0 rfl) <| sv (vldc pl22 rfl) <| sv (vmI rfl) <| sv (vslL Try.underlying22 sz5 rfl rfl (by omega) (by omega)) <| sv (vnil rfl) <| sv (vfld fl41f0 rfl) <| stc (v := .slice _ _ _) pl22 sz22 rfl rfl rfl <| WL.nil <| WX.thenN <| WC.seq <| WC.region <| sv (vmI rfl) <| sv (vaI rfl) <| WL.nil <| WX.thenN <| WC.ret <| WX.ret1 rfl (()) (trivial) rfl (fun w h => ?_)
      have hl : bs.length - ((p.2 : Int)).toNat = (bs.drop p.2).length := by simp
      rw [hl] at h
      exact rread_mk (by simp; omega) (rd_drop hr p.2 c hc) (fun b h => by cases h; rfl) h
theorem rref_left {w0 : World} {A : List HProp} {r : Nat} {base : Option Addr} {l c : Nat} {bad : Bool} :
    Fun Try.prog w0 25 [.pointer (some ⟨r, 0, none⟩)] (cel r [.slice base l c, .bool bad] 41 :: A)
      (Ret w0 (fun _ : Unit => True) (fun _ => .int .i64 (if bad then 0 else l)) (fun _ => cel r [.slice base l c, .bool bad] 41 :: A)) := by
  refine Fun.enter Try.func25 rfl Try.ntmps25 rfl ?_
  refine WC.seq <| WC.region <| sv (vaI rfl) <| WL.nil <| WX.thenN <| WC.seq <| WC.seq <| WC.region <| sv (vmP rfl) <| sv (vnil rfl) <| sv (vfld fl41f1 rfl) <| sv (vldc pl4 rfl) <| WL.nil <| WX.thenN <| ?_
  refine WC.iteb rfl (fun h1 => ?_) (fun h1 => ?_)
  · -- then
    subst h1
    exact WC.seq <| WC.region <| sv (vaI rfl) <| WL.nil <| WX.thenN <| WC.ret <| WX.thenR <| WX.ret1 rfl (()) (trivial) rfl (fun _ h => h)
  · -- else
    subst h1
    exact WC.skip <| WX.thenN <| WC.seq <| WC.region <| sv (vmP rfl) <| sv (vnil rfl) <| sv (vfld fl41f0 rfl) <| sv (vldc pl22 rfl) <| sv (vlen Try.underlying22 rfl) <| sv (vaI rfl) <| WL.nil <| WX.thenN <| WC.ret <| WX.ret1 rfl (()) (trivial) rfl (fun _ h => h)
/-- the number with which what is left begins -/
def rnum (st : Option (List UInt8)) : Int := ((st.bind take).map (·.1)).getD 0
def rnumS (st : Option (List UInt8)) : Option (List UInt8) := st.bind fun bs => (take bs).map fun p => bs.drop p.2
theorem rt_none {st : Option (List UInt8)} (h : rnumS st = none) : st.bind rtext = none := by
  cases st with
  | none => rfl
  | some bs => cases ht : take bs <;> simp [rnumS, rtext, ht] at h ⊢
theorem rt_some {st : Option (List UInt8)} {ds : List UInt8} (h : rnumS st = some ds) : st.bind rtext = if rnum st < 0 ∨ (ds.length : Int) < rnum st then none else some (ds.take (rnum st).toNat, ds.drop (rnum st).toNat) := by
  cases st with
  | none => simp [rnumS] at h
  | some bs =>
    cases ht : take bs with
    | none => simp [rnumS, ht] at h
    | some p =>
      obtain ⟨x, k⟩ := p
      simp [rnumS, ht] at h
      subst h
      simp [rtext, ht, rnum]
theorem rref_text {w0 : World} {A : List HProp} {r : Nat} {st : Option (List UInt8)} (hb : ∀ b, st = some b → b.length ≤ 140737488355328) :
    Fun Try.prog w0 23 [.pointer (some ⟨r, 0, none⟩)] (rread w0 r st :: A)
      (Ret w0 (fun _ : Unit => True) (fun _ => .string ⟨(((st.bind rtext).map (·.1)).getD []).toArray⟩) (fun _ => rread w0 r ((st.bind rtext).map (·.2)) :: A)) := by
  have hN : ∀ {A : List HProp}, Fun Try.prog w0 21 [.pointer (some ⟨r, 0, none⟩)] (rread w0 r st :: A) (Ret w0 (fun _ : Unit => True) (fun _ => .int .i64 (rnum st)) (fun _ => rread w0 r (rnumS st) :: A)) := rref_num hb
  refine Fun.enter Try.func23 rfl Try.ntmps23 rfl ?_
  refine WC.seq <| WC.region <| sv (vaT rfl) <| WL.nil <| WX.thenN <| WC.seq <| WC.region <| sv (vmP rfl) <| cl (hN) ct21 rfl fun _ _ => ?_
  refine WL.ex (fun w h => rread_open h) ?_
  rintro ⟨base, c, ds⟩ ⟨hc, hr, hs⟩
  dsimp only at hc hr hs ⊢
  refine sv (vaI rfl) <| WL.nil <| WX.thenN <| WC.seq <| ?_
  refine WC.cut0 [(23, .bool (decide ((rnumS st).isNone = true ∨ rnum st < 0 ∨ (ds.length : Int) < rnum st)))] [(0, .pointer _), (3, .int _ _)] (cel r [.slice base ds.length c, .bool (rnumS st).isNone] 41 :: A) ⟨rfl, rfl, trivial⟩ ?_ fun ρh => ?_
  · -- ref.go:70
    refine WC.region <| sv (vmP rfl) <| sv (vnil rfl) <| sv (vfld fl41f1 rfl) <| svb (vldc pl4 rfl) (fun q1 => ?_) (fun q1 => ?_)
    ·
      exact sv (vmB rfl) <| sng rfl <| sng rfl <| sv (vpkt rfl) <| sv (vmB rfl) <| sng rfl <| sng rfl <| sng rfl <| sng rfl <| sng rfl <| sng rfl <| sng rfl <| sv (vpkt rfl) <| WL.nil <| WX.mid () trivial ⟨bT (.inl q1), trivial⟩ ⟨rfl, rfl, trivial⟩ (fun _ h => h)
    ·
      refine sv (vmB rfl) <| svg rfl (vmI rfl) <| svsg rfl (vlt rfl rfl) (fun q2 => ?_) (fun q2 => ?_)
      ·
        exact sv (vpkf rfl) <| sv (vmB rfl) <| sng rfl <| sng rfl <| sng rfl <| sng rfl <| sng rfl <| sng rfl <| sng rfl <| sv (vpkt rfl) <| WL.nil <| WX.mid () trivial ⟨bT (.inr (.inl q2)), trivial⟩ ⟨rfl, rfl, trivial⟩ (fun _ h => h)
      ·
        exact sv (vpkf rfl) <| sv (vmB rfl) <| svg rfl (vmI rfl) <| svg rfl (vmP rfl) <| svg rfl (vnil rfl) <| svg rfl (vfld fl41f0 rfl) <| svg rfl (vldc pl22 rfl) <| svg rfl (vlen Try.underlying22 rfl) <| svg rfl (vgt rfl rfl) <| sv (vpkf rfl) <| WL.nil <| WX.mid () trivial ⟨bI (by simp [q1, q2]), trivial⟩ ⟨rfl, rfl, trivial⟩ (fun _ h => h)
  refine WC.ite rfl (fun h1 => ?_) (fun h1 => ?_)
  · -- then
    have hrt : st.bind rtext = none := by
      cases h : rnumS st with
      | none => exact rt_none h
      | some d => obtain rfl := hs d h; rw [rt_some h, if_pos (by simpa [h] using h1)]
    rw [hrt]
    exact WC.seq <| WC.region <| sv (vmP rfl) <| sv (vnil rfl) <| sv (vfld fl41f1 rfl) <| stc (v := .bool _) pl4 sz4 rfl rfl rfl <| WL.nil <| WX.thenN <| WC.seq <| WC.region <| sv (vaT rfl) <| WL.nil <| WX.thenN <| WC.ret <| WX.thenR <| WX.ret1 rfl (()) (trivial) rfl (fun w h => rread_mk hc hr (fun b h => by cases h) h)
  · -- else
    obtain ⟨d, hd⟩ : ∃ d, rnumS st = some d := by cases h : rnumS st <;> simp_all
    obtain rfl := hs d hd
    have h1' : ¬ (rnum st < 0 ∨ (ds.length : Int) < rnum st) := fun h => h1 (.inr h)
    rw [rt_some hd, if_neg h1', hd]
    have hlt : (ds.take (rnum st).toNat).length = (rnum st).toNat := by simp; omega
    refine WC.skip <| WX.thenN <| WC.seq <| WC.region <| sv (vmP rfl) <| sv (vnil rfl) <| sv (vfld fl41f0 rfl) <| sv (vldc pl22 rfl) <| sv (vmI rfl) <| sv (vslH Try.underlying22 sz5 rfl rfl (by omega) (by omega)) <| sv (vstr Try.underlying22 Try.underlying5 Try.underlying9 rfl (rd_take (RdC.old hr) _) hlt.symm) <| sv (vaT rfl) <| WL.nil <| WX.thenN <| WC.seq <| WC.region <| sv (vmP rfl) <| sv (vmP rfl) <| sv (vnil rfl) <| sv (vfld fl41f0 rfl) <| sv (vldc pl22 rfl) <| sv (vmI rfl) <| sv (vslL Try.underlying22 sz5 rfl rfl (by omega) (by omega)) <| sv (vnil rfl) <| sv (vfld fl41f0 rfl) <| stc (v := .slice _ _ _) pl22 sz22 rfl rfl rfl <| WL.nil <| WX.thenN <| WC.seq <| WC.region <| sv (vmT rfl) <| sv (vaT rfl) <| WL.nil <| WX.thenN <| WC.ret <| WX.ret1 rfl (()) (trivial) rfl (fun w h => ?_)
    have hl : ds.length - (rnum st).toNat = (ds.drop (rnum st).toNat).length := by simp
    rw [hl] at h
    exact rread_mk (by simp; omega) (rd_drop hr _ c hc) (fun b h => by cases h; rfl) h
theorem pnum {w0 : World} {A : List HProp} {r : Nat} {st : Option (List UInt8)} (hb : ∀ b, st = some b → b.length ≤ 140737488355328) :
    Fun Try.prog w0 20 [.pointer (some ⟨r, 0, none⟩)] (rstate r st :: A) (Ret w0 (fun _ : Unit => True) (fun _ => .int .i64 (rnum st)) (fun _ => rstate r (rnumS st) :: A)) := by
  cases st with
  | none => exact pack_rnum (bs := []) (bad := true) (by simp)
  | some bs =>
    have := pack_rnum (w0 := w0) (A := A) (r := r) (bs := bs) (bad := false) (hb _ rfl)
    cases ht : take bs with
    | none => simpa [ht, rnum, rnumS, rstate] using this
    | some p => simpa [ht, rnum, rnumS, rstate] using this
theorem ptext {w0 : World} {A : List HProp} {r : Nat} {st : Option (List UInt8)} (hb : ∀ b, st = some b → b.length ≤ 140737488355328) :
    Fun Try.prog w0 22 [.pointer (some ⟨r, 0, none⟩)] (rstate r st :: A)
      (Ret w0 (fun _ : Unit => True) (fun _ => .string ⟨(((st.bind rtext).map (·.1)).getD []).toArray⟩) (fun _ => rstate r ((st.bind rtext).map (·.2)) :: A)) := by
  cases st with
  | none => exact pack_rtext_bad (bs := []) (by simp)
  | some bs => exact pack_rtext (hb _ rfl)
end Go.Proofs.Ytbmfcfddbcbdgaa
