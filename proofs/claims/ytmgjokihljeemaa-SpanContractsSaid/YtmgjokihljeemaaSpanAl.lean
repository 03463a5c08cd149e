/- The fixed facts of the laws of span: the kernel runs what the functions compute. -/
import Derived.Test.YtmgjokihljeemaaRun
import Derived.Test.YtmgjokihljeemaaPlain
import Derived.KernelRfl
namespace Go.Proofs.Ytmgjokihljeemaa
open Go Go.RowKit
set_option maxRecDepth 100000
theorem alive20_k (N : Nat) : t_law20_alive (N + 100) () = some true := by kernel_rfl
theorem alive20 {N : Nat} (h : Fu ≤ N) : m_law20_alive N () = some true := by
  obtain ⟨M, rfl⟩ : ∃ M, N = M + 100 := ⟨N - 100, by rw [Fu_eq] at h; omega⟩
  rw [q_m_law20_alive]
  exact alive20_k M
end Go.Proofs.Ytmgjokihljeemaa
