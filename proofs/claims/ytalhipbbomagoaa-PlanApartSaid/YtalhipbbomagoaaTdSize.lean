/- Code of functions, told over a heap of plain values, and that it is the program's: no statement of the set is proved in this text. -/
import Derived.Test.YtalhipbbomagoaaProg
import Derived.Test.YtalhipbbomagoaaBa3
import Derived.KernelRfl
namespace Go.Proofs.Ytalhipbbomagoaa.Cd
open Go.Proofs.Ytalhipbbomagoaa.Ab
set_option maxRecDepth 100000
set_option maxHeartbeats 4000000
def head_Size.c : AC := (.seq (.reg [⟨(some 1), none, false, (.f (.box (T 0)))⟩, ⟨(some 2), none, false, (.f (.mv (C (.int .i64 0))))⟩]) (.seq (.seq (.reg [⟨(some 3), none, false, (.f (.fad 0 (T 1)))⟩, ⟨(some 4), none, false, (.f (.ld none (T 3)))⟩]) (.cond (T 4) (.seq (.reg [⟨(some 2), none, false, (.f (.mv (C (.int .i64 64))))⟩]) .ret) .skip)) (.seq (.reg [⟨(some 2), none, false, (.f (.mv (C (.int .i64 52))))⟩]) .ret)))
theorem head_Size.told : IsTold Try.prog 75 5 head_Size.c [(.tmp 2)] := ⟨Try.f75, _, Try.func75, by kernel_rfl, rfl, rfl, by kernel_rfl, by kernel_rfl⟩
def prog_Size.c : AC := (.seq (.reg [⟨(some 1), none, false, (.f (.box (T 0)))⟩, ⟨(some 2), none, false, (.f (.mv (C (.int .i64 0))))⟩]) (.seq (.seq (.reg [⟨(some 3), none, false, (.f (.fad 0 (T 1)))⟩, ⟨(some 4), none, false, (.f (.ld none (T 3)))⟩]) (.cond (T 4) (.seq (.reg [⟨(some 2), none, false, (.f (.mv (C (.int .i64 56))))⟩]) .ret) .skip)) (.seq (.reg [⟨(some 2), none, false, (.f (.mv (C (.int .i64 32))))⟩]) .ret)))
theorem prog_Size.told : IsTold Try.prog 77 5 prog_Size.c [(.tmp 2)] := ⟨Try.f77, _, Try.func77, by kernel_rfl, rfl, rfl, by kernel_rfl, by kernel_rfl⟩
def sect_Size.c : AC := (.seq (.reg [⟨(some 1), none, false, (.f (.box (T 0)))⟩, ⟨(some 2), none, false, (.f (.mv (C (.int .i64 0))))⟩]) (.seq (.seq (.reg [⟨(some 3), none, false, (.f (.fad 0 (T 1)))⟩, ⟨(some 4), none, false, (.f (.ld none (T 3)))⟩]) (.cond (T 4) (.seq (.reg [⟨(some 2), none, false, (.f (.mv (C (.int .i64 64))))⟩]) .ret) .skip)) (.seq (.reg [⟨(some 2), none, false, (.f (.mv (C (.int .i64 40))))⟩]) .ret)))
theorem sect_Size.told : IsTold Try.prog 78 5 sect_Size.c [(.tmp 2)] := ⟨Try.f78, _, Try.func78, by kernel_rfl, rfl, rfl, by kernel_rfl, by kernel_rfl⟩
end Go.Proofs.Ytalhipbbomagoaa.Cd
