/-
  Layer 3: found again, whatever the bytes; no journal, no disk.
-/
import Derived.Test.YtephlppgappcnaaJournalLawB
set_option linter.unusedVariables false
set_option linter.unusedSimpArgs false
set_option maxRecDepth 4000
namespace Go.Proofs.Ytephlppgappcnaa
open Go.Sl Go.RowKit Go.Pack Go.Journal

theorem walk_any {w0 : World} {A : List HProp} {fb rb : Option Addr} {fc rc : Nat} {file rec : List UInt8} (hf : Rd w0 fb (u8s file)) (hr : Rd w0 rb (u8s rec)) :
    Fun Try.prog w0 3 [.slice fb file.length fc, .slice rb rec.length rc] A (Ret w0 (fun _ : Unit => True) (fun _ => .bool true) (fun _ => A)) := by
  refine Fun.enter Try.func3 rfl Try.ntmps3 rfl ?_
  refine WC.seq <| WC.region <| sv (vaB rfl) <| WL.nil <| WX.thenN <| WC.seq <| ?_
  refine WC.cut0 [(23, .bool (decide ((4096 : Int) < file.length ∨ (1024 : Int) < rec.length)))] [(0, .slice _ _ _), (1, .slice _ _ _)] (A) ⟨rfl, rfl, trivial⟩ ?_ fun ρh => ?_
  · -- law.go:155
    refine WC.region <| sv (vmS rfl) <| sv (vlen Try.underlying22 rfl) <| svs (vgt rfl rfl) (fun q1 => ?_) (fun q1 => ?_)
    ·
      exact sv (vmB rfl) <| sng rfl <| sng rfl <| sng rfl <| sv (vpkt rfl) <| WL.nil <| WX.mid () trivial ⟨bT (by first | omega | simp_all | grind), trivial⟩ ⟨rfl, rfl, trivial⟩ (fun _ h => h)
    ·
      exact sv (vmB rfl) <| svg rfl (vmS rfl) <| svg rfl (vlen Try.underlying22 rfl) <| svg rfl (vgt rfl rfl) <| sv (vpkf rfl) <| WL.nil <| WX.mid () trivial ⟨bI (by first | omega | simp_all | grind), trivial⟩ ⟨rfl, rfl, trivial⟩ (fun _ h => h)
  refine WC.ite rfl (fun h1 => ?_) (fun h1 => ?_)
  · -- then
    exact WC.seq <| WC.region <| sv (vaB rfl) <| WL.nil <| WX.thenN <| WC.ret <| WX.thenR <| WX.ret1 rfl (()) (trivial) rfl (fun _ h => h)
  · -- else
    obtain ⟨s1, e1, f1, i1⟩ := Fl.new.append (nm := nmJ) (b := file) nmJ_ok (by simp; omega)
    rw [List.nil_append] at f1
    obtain ⟨s2, n2, e2, f2, l2, m2, _⟩ := f1.open nmJ_ok
    obtain ⟨recs, hrecs⟩ : ∃ recs, recs = (recsB file).1 := ⟨_, rfl⟩
    have hag := recsB_again file
    have hwh := congrArg List.length (recsB_whole file)
    have hsh := recsB_short file
    rw [List.length_append] at hwh
    have hfl := flat_length (recsB file).1
    rw [← hrecs] at f2 hag hwh hsh hfl
    obtain ⟨s3, n3, e3, f3, l3, m3, _⟩ := f2.open nmJ_ok
    rw [hag] at f3
    obtain ⟨s4, e4, f4, i4⟩ := f3.add (b := rec) nmJ_ok (by dsimp only; omega)
    obtain ⟨s5, n5, e5, f5, l5, m5, _⟩ := f4.open nmJ_ok
    have hr1 : (recsB (readS nmJ s1).1).1 = recs := by rw [f1.read, hrecs]
    have hr2 : (recsB (readS nmJ s2).1).1 = recs := by rw [f2.read, hag]
    have hr4 : (recsB (readS nmJ s4).1).1 = recs ++ [rec] := by
      have h := recsB_flat recs (frameB rec) hsh
      have h2 := recsB_frame (r := rec) (by omega) []
      rw [List.append_nil, recsB_nil] at h2
      rw [h2] at h
      rw [f4.read, h]
    have d1 := f1.deeds; have d2 := f2.deeds; have d3 := f3.deeds; have d4 := f4.deeds
    refine WC.skip <| WX.thenN <| WC.seq <| WC.region <| cl (disk_new) ct8 rfl fun d _ => sv (vaP rfl) <| WL.nil <| WX.thenN <| WC.seq <| ?_
    refine WC.cut0 [(32, .bool false)] [(1, .slice _ _ _), (5, .pointer _)] (pdisk d s1 :: A) ⟨rfl, rfl, trivial⟩ ?_ fun ρh => ?_
    · -- law.go:159
      exact WC.region <| sv (vmP rfl) <| sv (vpeqF Try.underlying23 rfl rfl) <| sv (vmB rfl) <| svg rfl (vmP rfl) <| svg rfl (vmS rfl) <| gy rfl <| cl (disk_append_at (nm := nmJ) (hR := ⟨RdC.old hf⟩) nmJ_len (by decide) (by omega) rfl e1) ct9 rfl fun _ _ => svg rfl (vF (vne rfl rfl) (by omega)) <| sv (vpkf rfl) <| WL.nil <| WX.mid () trivial ⟨rfl, trivial⟩ ⟨rfl, rfl, trivial⟩ (fun _ h => h)
    refine WC.ff rfl ?_
    refine WC.skip <| WX.thenN <| WC.seq <| WC.region <| sv (vmP rfl) <| cl (journal_open_at (nm := nmJ) (by omega) e2 hr1) ct10 rfl fun i4 hi4 => ?_
    obtain ⟨u4, v4⟩ := hi4
    have len4 : i4.2.2.2.length = recs.length := by have := congrArg List.length u4; simpa using this
    refine sv vmv <| sv (vex rfl rfl) <| sv (vex rfl rfl) <| sv (vex rfl rfl) <| sv (vaP rfl) <| sv (vaS rfl) <| sv (vaI rfl) <| WL.nil <| WX.thenN <| WC.seq <| WC.region <| sv (vmP rfl) <| pm (fun _ h => h.pk1) <| cl (journal_open_at (nm := nmJ) (by omega) e3 hr2) ct10 rfl fun i5 hi5 => ?_
    obtain ⟨u5, v5⟩ := hi5
    have len5 : i5.2.2.2.length = recs.length := by have := congrArg List.length u5; simpa using this
    refine sv vmv <| sv (vex rfl rfl) <| sv (vex rfl rfl) <| sv (vex rfl rfl) <| sv (vaP rfl) <| sv (vaS rfl) <| sv (vaI rfl) <| WL.nil <| WX.thenN <| WC.seq <| ?_
    refine WC.cut0 [(64, .bool false)] [(1, .slice _ _ _), (5, .pointer _), (7, .slice _ _ _), (9, .pointer _)] (cel i5.1 (jcells d nmJ i5.2.2.2.length false) 70 :: pdisk d s3 :: row i5.2.1 i5.2.2.1 1 22 (bss i5.2.2.2) :: rows 5 i5.2.2.2 :: cel i4.1 (jcells d nmJ i4.2.2.2.length false) 70 :: row i4.2.1 i4.2.2.1 1 22 (bss i4.2.2.2) :: rows 5 i4.2.2.2 :: A) ⟨rfl, rfl, rfl, rfl, trivial⟩ ?_ fun ρh => ?_
    · -- law.go:164
      exact WC.region <| sv (vmP rfl) <| sv (vpeqF Try.underlying27 rfl rfl) <| sv (vmB rfl) <| svg rfl (vmP rfl) <| svg rfl (vpeqF Try.underlying27 rfl rfl) <| sv (vpkf rfl) <| sv (vmB rfl) <| svg rfl (vmI rfl) <| svg rfl (vF (vne rfl rfl) (by omega)) <| sv (vpkf rfl) <| sv (vmB rfl) <| svg rfl (vmI rfl) <| svg rfl (vF (vne rfl rfl) (by omega)) <| sv (vpkf rfl) <| sv (vmB rfl) <| svg rfl (vmS rfl) <| svg rfl (vmS rfl) <| gy rfl <| cl (law3_same_true i4.2.2.2 i5.2.2.2 reads (fun x hx => RdC.of_rows (e := 5) (by simp) hx) reads (fun x hx => RdC.of_rows (e := 5) (by simp) hx) rfl rfl (by omega) (by rw [u4, u5])) ct11 rfl fun _ _ => svg rfl (vnot rfl) <| sv (vpkf rfl) <| WL.nil <| WX.mid () trivial ⟨rfl, trivial⟩ ⟨rfl, rfl, rfl, rfl, trivial⟩ (fun _ h => h)
    refine WC.ff rfl ?_
    refine WC.skip <| WX.thenN <| WC.seq <| WC.region <| sv (vmP rfl) <| sv (vmS rfl) <| cl (journal_add_at (nm := nmJ) (rec := rec) (RdC.old hr) rfl (by omega) nmJ_len (by omega) (by omega) e4) ct12 rfl fun _ _ => sv (vaI rfl) <| WL.nil <| WX.thenN <| WC.seq <| WC.region <| sv (vmP rfl) <| pm (fun _ h => h.pk1) <| cl (journal_open_at (nm := nmJ) (by omega) e5 hr4) ct10 rfl fun i10 hi10 => ?_
    obtain ⟨u10, v10⟩ := hi10
    have len10 : i10.2.2.2.length = recs.length + 1 := by have := congrArg List.length u10; simpa using this
    have hk : i4.2.2.2.length < i10.2.2.2.length := by omega
    have hlast : (i10.2.2.2[i4.2.2.2.length]).xs = rec := by
      have := congrArg (fun l => l[recs.length]?) u10
      simpa [len4, len10] using this
    have htk : (i10.2.2.2.take i4.2.2.2.length).map (·.xs) = i4.2.2.2.map (·.xs) := by
      rw [List.map_take, u10, u4, len4]; exact List.take_left' rfl
    refine sv vmv <| sv (vex rfl rfl) <| sv (vex rfl rfl) <| sv (vex rfl rfl) <| sv (vaP rfl) <| sv (vaS rfl) <| sv (vaI rfl) <| WL.nil <| WX.thenN <| ?_
    refine WC.cut0 [(4, .bool true)] [] (A) trivial ?_ fun ρh => ?_
    · -- law.go:169
      exact WC.draws rfl (by kernel_rfl) <| qcl (Fun.quiet (law3_awake)) ct13 rfl <| qv (vmB rfl) <| qvg rfl (vmI rfl) <| qvg rfl (vT (veq rfl rfl) (by omega)) <| qv (vpkt rfl) <| qv (vmB rfl) <| qvg rfl (vmI rfl) <| qvg rfl (vT (veq rfl rfl) (by omega)) <| qv (vpkt rfl) <| qv (vmB rfl) <| qvg rfl (vmS rfl) <| qvg rfl (vlen Try.underlying28 rfl) <| qvg rfl (vmS rfl) <| qvg rfl (vlen Try.underlying28 rfl) <| qvg rfl (vadd rfl rfl (by omega)) <| qvg rfl (vT (veq rfl rfl) (by omega)) <| qv (vpkt rfl) <| qv (vmB rfl) <| qvg rfl (vmS rfl) <| qvg rfl (vmS rfl) <| qvg rfl (vlen Try.underlying28 rfl) <| qvg rfl (vslH Try.underlying28 sz22 rfl rfl (by omega) (by omega)) <| qvg rfl (vmS rfl) <| qclg rfl (Fun.quiet (law3_same_true (i10.2.2.2.take i4.2.2.2.length) i4.2.2.2 (by rw [bss_take]; exact reads.take _) (fun x hx => RdC.of_rows (e := 5) (l := i10.2.2.2) (by simp) (List.mem_of_mem_take hx)) reads (fun x hx => RdC.of_rows (e := 5) (by simp) hx) (by rw [List.length_take]; omega) rfl (by rw [List.length_take]; omega) htk)) ct11 rfl <| qv (vpkt rfl) <| qv (vmB rfl) <| qvg rfl (vmS rfl) <| qvg rfl (vmS rfl) <| qvg rfl (vlen Try.underlying28 rfl) <| qvg rfl (vix1 Try.underlying28 sz22 rfl rfl (by omega) (by omega) reads (by rw [bss_length]; omega)) <| qvg rfl (vldo pl22 rfl reads (bss_at hk)) <| qvg rfl (vstr Try.underlying22 Try.underlying5 Try.underlying9 rfl (RdC.of_rows (e := 5) (l := i10.2.2.2) (by simp) (List.getElem_mem hk)) rfl) <| qvg rfl (vmS rfl) <| qvg rfl (vstr Try.underlying22 Try.underlying5 Try.underlying9 rfl (RdC.old hr) rfl) <| qvg rfl (vT (veqs rfl rfl) (bytes_eq.2 hlast)) <| qv (vpkt rfl) <| qv (vaB rfl) <| WQ.nil <| WX.mid () trivial ⟨rfl, trivial⟩ trivial (fun w h => h.suf)
    exact WC.ret <| WX.ret1 rfl (()) (trivial) rfl (fun _ h => h)
theorem nmU_no : ¬ okName ⟨#[74]⟩ := by decide +kernel
theorem walk_nil3 {w0 : World} {A : List HProp} {rb : Option Addr} {n rc : Nat} :
    Fun Try.prog w0 5 [.slice rb n rc] A (Ret w0 (fun _ : Unit => True) (fun _ => .bool true) (fun _ => A)) := by
  refine Fun.enter Try.func5 rfl Try.ntmps5 rfl ?_
  refine WC.seq <| WC.region <| sv (vaB rfl) <| WL.nil <| WX.thenN <| WC.seq <| WC.region <| sv (vaP rfl) <| WL.nil <| WX.thenN <| WC.seq <| WC.region <| cl (journal_open_nil) ct10 rfl fun _ _ => sv vmv <| sv (vex rfl rfl) <| sv (vex rfl rfl) <| sv (vex rfl rfl) <| sv (vaP rfl) <| sv (vaS rfl) <| sv (vaI rfl) <| WL.nil <| WX.thenN <| WC.seq <| WC.region <| cl (disk_new) ct8 rfl fun d _ => cl (journal_open_name rfl nmU_no) ct10 rfl fun _ _ => sv vmv <| sv (vex rfl rfl) <| sv (vex rfl rfl) <| sv (vex rfl rfl) <| sv (vaP rfl) <| sv (vaS rfl) <| sv (vaI rfl) <| WL.nil <| WX.thenN <| ?_
  refine WC.cut0 [(2, .bool true)] [] (A) trivial ?_ fun ρh => ?_
  · -- law.go:192
    exact WC.region <| cl (law3_awake) ct13 rfl fun _ _ => sv (vmB rfl) <| svg rfl (vmP rfl) <| svg rfl (vpeqT Try.underlying27 rfl rfl) <| sv (vpkt rfl) <| sv (vmB rfl) <| svg rfl (vmS rfl) <| svg rfl (vlen Try.underlying28 rfl) <| svg rfl (vT (veq rfl rfl) (by omega)) <| sv (vpkt rfl) <| sv (vmB rfl) <| svg rfl (vmI rfl) <| svg rfl (vT (veq rfl rfl) (by omega)) <| sv (vpkt rfl) <| sv (vmB rfl) <| svg rfl (vmI rfl) <| svg rfl (vT (veq rfl rfl) (by omega)) <| sv (vpkt rfl) <| sv (vmB rfl) <| svg rfl (vmP rfl) <| svg rfl (vmS rfl) <| gy rfl <| cl (journal_add_nil) ct12 rfl fun _ _ => svg rfl (vT (veq rfl rfl) (by omega)) <| sv (vpkt rfl) <| sv (vmB rfl) <| svg rfl (vmP rfl) <| gy rfl <| cl (journal_len_nil) ct16 rfl fun _ _ => svg rfl (vT (veq rfl rfl) (by omega)) <| sv (vpkt rfl) <| sv (vaB rfl) <| WL.nil <| WX.mid () trivial ⟨rfl, trivial⟩ trivial (fun w h => h.suf)
  exact WC.ret <| WX.ret1 rfl (()) (trivial) rfl (fun _ h => h)
end Go.Proofs.Ytephlppgappcnaa
