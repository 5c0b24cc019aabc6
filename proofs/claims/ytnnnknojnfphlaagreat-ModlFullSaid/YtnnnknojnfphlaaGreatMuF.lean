/-
  The tables hold; the Env of ModlFull's cases is made.
-/
import Derived.Test.YtnnnknojnfphlaaGreatMuE
import Derived.Test.YtnnnknojnfphlaaGreatMuD0
import Derived.Test.YtnnnknojnfphlaaGreatMuD1
import Derived.Test.YtnnnknojnfphlaaGreatMuD2
import Derived.Test.YtnnnknojnfphlaaGreatMuD3
import Derived.Test.YtnnnknojnfphlaaGreatMuD4
import Derived.Test.YtnnnknojnfphlaaGreatMuD5
namespace Go.Proofs.YtnnnknojnfphlaaGreat.Cl
open Go Go.Cm
theorem known_ {f : FuncId} {ds : List Value} {v : Value} (h : deepRunC env0 1000 100 1 [] f ds = some (v, [])) : DeepOk Tryz.prog f ds v [] :=
  deep_of_fast made0.ok made0.coded (fun _ h => blt_lt0 h) h
def AllKnown (f : FuncId) : List (List Value × Value) → Prop
  | [] => True
  | e :: l => DeepOk Tryz.prog f e.1 e.2 [] ∧ AllKnown f l
theorem AllKnown.mem {f : FuncId} : ∀ {l : List (List Value × Value)}, AllKnown f l → ∀ e, e ∈ l → DeepOk Tryz.prog f e.1 e.2 []
  | [], _, _, h => by cases h
  | x :: l, h, e, he => by
    rw [List.mem_cons] at he
    rcases he with rfl | he
    · exact h.1
    · exact AllKnown.mem h.2 e he
set_option maxRecDepth 100000 in
theorem allD : AllKnown 19 tabD := ⟨known_ d0, known_ d1, known_ d2, known_ d3, known_ d4, known_ d5, known_ d6, known_ d7, known_ d8, known_ d9, known_ d10, known_ d11, known_ d12, known_ d13, known_ d14, known_ d15, known_ d16, known_ d17, known_ d18, known_ d19, known_ d20, known_ d21, known_ d22, known_ d23, known_ d24, known_ d25, known_ d26, known_ d27, known_ d28, known_ d29, known_ d30, known_ d31, known_ d32, known_ d33, known_ d34, known_ d35, known_ d36, known_ d37, known_ d38, known_ d39, known_ d40, known_ d41, known_ d42, known_ d43, known_ d44, known_ d45, known_ d46, known_ d47, known_ d48, known_ d49, known_ d50, known_ d51, known_ d52, known_ d53, known_ d54, known_ d55, known_ d56, known_ d57, known_ d58, known_ d59, known_ d60, known_ d61, known_ d62, known_ d63, known_ d64, known_ d65, known_ d66, known_ d67, known_ d68, known_ d69, known_ d70, known_ d71, known_ d72, known_ d73, known_ d74, known_ d75, known_ d76, known_ d77, known_ d78, known_ d79, known_ d80, known_ d81, known_ d82, known_ d83, known_ d84, known_ d85, known_ d86, known_ d87, known_ d88, known_ d89, known_ d90, known_ d91, known_ d92, known_ d93, known_ d94, known_ d95, known_ d96, known_ d97, known_ d98, known_ d99, known_ d100, known_ d101, known_ d102, known_ d103, known_ d104, known_ d105, known_ d106, known_ d107, known_ d108, known_ d109, known_ d110, known_ d111, known_ d112, known_ d113, known_ d114, known_ d115, known_ d116, known_ d117, known_ d118, known_ d119, known_ d120, known_ d121, known_ d122, known_ d123, known_ d124, known_ d125, known_ d126, known_ d127, known_ d128, known_ d129, known_ d130, known_ d131, known_ d132, known_ d133, known_ d134, known_ d135, known_ d136, known_ d137, known_ d138, known_ d139, known_ d140, known_ d141, known_ d142, known_ d143, known_ d144, known_ d145, known_ d146, known_ d147, known_ d148, known_ d149, known_ d150, known_ d151, known_ d152, known_ d153, known_ d154, known_ d155, known_ d156, known_ d157, known_ d158, known_ d159, known_ d160, known_ d161, known_ d162, known_ d163, known_ d164, known_ d165, known_ d166, known_ d167, known_ d168, known_ d169, known_ d170, known_ d171, known_ d172, known_ d173, known_ d174, known_ d175, known_ d176, known_ d177, known_ d178, known_ d179, known_ d180, known_ d181, known_ d182, known_ d183, known_ d184, known_ d185, known_ d186, known_ d187, known_ d188, known_ d189, known_ d190, known_ d191, known_ d192, known_ d193, known_ d194, known_ d195, known_ d196, known_ d197, known_ d198, known_ d199, known_ d200, known_ d201, known_ d202, known_ d203, known_ d204, known_ d205, known_ d206, known_ d207, known_ d208, known_ d209, known_ d210, known_ d211, known_ d212, known_ d213, known_ d214, known_ d215, known_ d216, known_ d217, known_ d218, known_ d219, known_ d220, known_ d221, known_ d222, known_ d223, known_ d224, known_ d225, known_ d226, known_ d227, known_ d228, known_ d229, known_ d230, known_ d231, known_ d232, known_ d233, known_ d234, known_ d235, known_ d236, known_ d237, known_ d238, known_ d239, known_ d240, known_ d241, known_ d242, known_ d243, known_ d244, known_ d245, known_ d246, known_ d247, known_ d248, known_ d249, known_ d250, known_ d251, known_ d252, known_ d253, known_ d254, known_ d255, known_ d256, known_ d257, known_ d258, known_ d259, known_ d260, known_ d261, known_ d262, known_ d263, known_ d264, known_ d265, known_ d266, known_ d267, known_ d268, known_ d269, known_ d270, known_ d271, known_ d272, known_ d273, known_ d274, known_ d275, known_ d276, known_ d277, known_ d278, known_ d279, known_ d280, known_ d281, known_ d282, known_ d283, known_ d284, known_ d285, known_ d286, known_ d287, known_ d288, known_ d289, known_ d290, known_ d291, known_ d292, known_ d293, known_ d294, known_ d295, known_ d296, known_ d297, known_ d298, known_ d299, known_ d300, known_ d301, known_ d302, known_ d303, known_ d304, known_ d305, known_ d306, known_ d307, known_ d308, known_ d309, known_ d310, known_ d311, known_ d312, known_ d313, known_ d314, known_ d315, known_ d316, known_ d317, known_ d318, known_ d319, known_ d320, known_ d321, known_ d322, known_ d323, known_ d324, known_ d325, known_ d326, known_ d327, known_ d328, known_ d329, known_ d330, known_ d331, known_ d332, known_ d333, known_ d334, known_ d335, known_ d336, known_ d337, known_ d338, known_ d339, known_ d340, known_ d341, known_ d342, known_ d343, known_ d344, known_ d345, known_ d346, known_ d347, known_ d348, known_ d349, known_ d350, known_ d351, known_ d352, known_ d353, known_ d354, known_ d355, known_ d356, known_ d357, known_ d358, known_ d359, known_ d360, known_ d361, known_ d362, known_ d363, known_ d364, known_ d365, known_ d366, known_ d367, known_ d368, known_ d369, known_ d370, known_ d371, known_ d372, known_ d373, known_ d374, known_ d375, known_ d376, known_ d377, known_ d378, known_ d379, known_ d380, known_ d381, known_ d382, known_ d383, known_ d384, known_ d385, known_ d386, known_ d387, known_ d388, known_ d389, known_ d390, known_ d391, known_ d392, known_ d393, known_ d394, known_ d395, known_ d396, known_ d397, known_ d398, known_ d399, known_ d400, trivial⟩
theorem dkU_ok : ∀ (f : FuncId) (F : List Value → Option (Value × List (Nat × List Value))) (ds : List Value) (v : Value) (rows : List (Nat × List Value)), dkU f = some F → F ds = some (v, rows) → DeepOk Tryz.prog f ds v rows := by
  intro f F ds v rows h hF
  unfold dkU at h
  cases h1 : Nat.beq f 19 with
  | true =>
    rw [h1, cond_true] at h
    injection h with h; subst h
    obtain ⟨e, he, rfl, rfl, rfl⟩ := lookT_some hF
    rw [Nat.eq_of_beq_eq_true h1]
    exact allD.mem e he
  | false => rw [h1, cond_false] at h; cases h
theorem awakeU0 : yesC env0 1000 100 21 [] 1 = true := by kernel_rfl
theorem awakeU (w : World) : Calls Tryz.prog 21 #[] w fun e w' => e = .returned (.bool true) ∧ Go.RowKit.Below w.heap.size w w' := by
  obtain ⟨n, h⟩ := yes_of_fast awakeU0
  exact closedAt made0.ok made0.coded (fun _ h => blt_lt0 h) h .nil w
section
variable (E : Env) (x : FuncId → Option (List Value → Option Value)) (y : FuncId → Option (List Value → Option (Value × List (Nat × List Value))))
theorem operOk_dk : operOk { E with ext := x, dk := y } = operOk E := by funext o; cases o <;> rfl
theorem opOk_dk : opOk { E with ext := x, dk := y } = opOk E := by funext o; unfold opOk; rw [operOk_dk]
theorem codeOk_dk : ∀ c, codeOk { E with ext := x, dk := y } c = codeOk E c := by
  intro c
  induction c with
  | region id ops draw => unfold codeOk; rw [opOk_dk]
  | seq a b iha ihb => unfold codeOk; rw [iha, ihb]
  | cond v a b iha ihb => unfold codeOk; rw [iha, ihb, operOk_dk]
  | block id c ih => unfold codeOk; exact ih
  | loop c ih => unfold codeOk; exact ih
  | scope c ih => unfold codeOk; exact ih
  | _ => rfl
theorem goodAt_dk (i : Nat) : goodAt { E with ext := x, dk := y } i = goodAt E i := by
  unfold goodAt
  simp only [codeOk_dk]
theorem goodAll_dk (mask n : Nat) : goodAll { E with ext := x, dk := y } mask n = goodAll E mask n := by
  unfold goodAll
  simp only [goodAt_dk]
end
theorem goodU : goodAll envU 0xffffffffffffffffffffffffffffffffffffffffffffffffffffffffffffffffffffffffffffffffffffffffffffffffffffffffffc Tryz.prog.funcs.size = true := (goodAll_dk env0 (orExt (trueAt 21) (externs Tryz.prog [])) dkU 0xffffffffffffffffffffffffffffffffffffffffffffffffffffffffffffffffffffffffffffffffffffffffffffffffffffffffffc Tryz.prog.funcs.size).trans good0
set_option maxRecDepth 100000 in
theorem madeU : envU.Made 0xffffffffffffffffffffffffffffffffffffffffffffffffffffffffffffffffffffffffffffffffffffffffffffffffffffffffffc where
  und := rfl
  info := rfl
  fn := rfl
  good := goodU
  mixed := Tryz.checked.mixed
  sk := skT_ok
  ext := orExt_ok (P := Tryz.prog) (a := trueAt 21) (b := externs Tryz.prog []) (trueAt_ok (known_of Tryz.func21 (by decide) rfl awakeU)) (externs_ok Tryz.prog [])
  dk := dkU_ok
  ask := noAsk
  askLen := noLen
  kt := noKt
  askC := noC
  askS := noS
end Go.Proofs.YtnnnknojnfphlaaGreat.Cl
