/- Layer 19's scripts; Few. -/
import Derived.Test.YtdconcindpfmcaaDe
import Derived.Test.YtdconcindpfmcaaTc
set_option linter.unusedVariables false
set_option linter.unusedSimpArgs false
namespace Go.Proofs.Ytdconcindpfmcaa
open V A
structure SOp where
  kind : Int
  client : Int
  status : Int
  token : Int
  floor : Int
  bytes : List UInt8
def SOp.d (o : SOp) : List A.Dat := [.v (kI o.kind), .v (kI o.client), .v (kI o.status), .v (kU o.token), .v (kU o.floor), A.bytesD o.bytes]
def scrD (l : List SOp) : AV := .d (.sl 6 (l.map SOp.d))
def nI (n : Nat) : AV := .v (.int .i64 n) 0
/-- Few: a script that it lets in is short, and so are its bytes. -/
theorem few_spec {l : List SOp} (hl : l.length ≤ reachBytes) (hb : ∀ o ∈ l, o.bytes.length ≤ reachBytes) : FSpec Try.prog 37 [scrD l] [] fun a cs => ∃ b, (b = true → l.length ≤ 300 ∧ ∀ o ∈ l, o.bytes.length ≤ 20000) ∧ a = .v (.bool b) 0 ∧ cs = [] := by
  refine a_enter hT [scrD l] [] Try.func37 rfl rfl rfl ⟨rfl, trivial⟩ fun c => ?_
  refine a_loop hT [0, 3, 6, 7] (fun x : Nat × Nat => [scrD l, nI x.2, nI l.length, nI x.1]) (fun _ => []) (fun x => x.1 ≤ l.length ∧ x.1 ≤ 300 ∧ x.2 ≤ 20000 ∧ ∀ o ∈ l.take x.1, o.bytes.length ≤ 20000) (fun x => l.length - x.1) (0, 0) [] rfl rfl ⟨by omega, by omega, by omega, by simp⟩
    ⟨rfl, rfl, by show Value.int .i64 ((l.map SOp.d).length : Int) = .int .i64 (l.length : Int); rw [List.length_map], rfl, trivial⟩ rfl trivial ?_
  rintro ⟨i, n⟩ ⟨h1, h2, h3, h4⟩
  refine a_if hT rfl rfl (fun hi => ?_) (fun hi => ?_)
  · have hi' : i < l.length := by
      have : (i : Int) < l.length := of_decide_eq_true hi
      omega
    have hd : (l.map SOp.d)[((i : Nat) : Int).toNat]? = some (SOp.d l[i]) := by simp [hi']
    have hbi := hb l[i] (List.getElem_mem hi')
    refine a_ix hT (SOp.d l[i]) rfl rfl rfl rfl rfl rfl (by omega) hd ?_
    have hsum : IntKind.i64.wrap ((n : Int) + ((l[i].bytes.map eB).length : Int)) = ((n + l[i].bytes.length : Nat) : Int) := by
      rw [List.length_map, wrap64 (by omega) (by unfold reachBytes at hbi; omega)]
      rfl
    refine a_g hT rfl rfl rfl (fun h3g => ?_) (fun h3g => ?_)
    · refine a_t hT rfl rfl rfl ?_
      exact a_ret hT [] rfl rfl rfl rfl rfl rfl ⟨false, by simp, rfl, rfl⟩
    · have hi3 : ¬ (i : Int) ≥ 300 := of_decide_eq_false h3g
      refine a_if hT rfl rfl (fun hb2 => ?_) (fun hb2 => ?_)
      · exact a_ret hT [] rfl rfl rfl rfl rfl rfl ⟨false, by simp, rfl, rfl⟩
      · have hb3 : ¬ IntKind.i64.wrap ((n : Int) + ((l[i].bytes.map eB).length : Int)) > 20000 := of_decide_eq_false hb2
        rw [hsum] at hb3
        refine a_next hT (i + 1, n + l[i].bytes.length) [] rfl rfl ⟨⟨by show i + 1 ≤ l.length; omega, by show i + 1 ≤ 300; omega, by show n + l[i].bytes.length ≤ 20000; omega, ?_⟩, by show l.length - (i + 1) < l.length - i; omega⟩ ⟨rfl, ?_, rfl, ?_, trivial⟩ rfl trivial
        · intro o ho
          rw [show (i + 1, n + l[i].bytes.length).1 = i + 1 from rfl, List.take_add_one] at ho
          rcases List.mem_append.1 ho with ho | ho
          · exact h4 o ho
          · rw [List.getElem?_eq_getElem hi'] at ho
            simp at ho
            subst ho
            omega
        · show Value.int .i64 (IntKind.i64.wrap ((n : Int) + ((l[i].bytes.map eB).length : Int))) = .int .i64 ((n + l[i].bytes.length : Nat) : Int)
          rw [hsum]
        · show Value.int .i64 (IntKind.i64.wrap ((i : Int) + 1)) = .int .i64 ((i + 1 : Nat) : Int)
          rw [wrap64 (by omega) (by omega)]
          rfl
  · have hi' : ¬ (i : Int) < l.length := of_decide_eq_false hi
    refine a_ret hT [] rfl rfl rfl rfl rfl rfl ⟨true, fun _ => ⟨by omega, fun o ho => h4 o ?_⟩, rfl, rfl⟩
    rw [List.take_of_length_le (by show l.length ≤ i; omega)]
    exact ho
end Go.Proofs.Ytdconcindpfmcaa
