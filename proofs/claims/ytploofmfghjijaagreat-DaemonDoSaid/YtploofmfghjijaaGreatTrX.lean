/- Rounds of a loop, counted; numbers.
  Conditions: none. -/
import Derived.Test.YtploofmfghjijaaGreatTrW
import Derived.LoopN
namespace Go.Tr
open Go
set_option linter.unusedVariables false
theorem od(n:Int):IntKind.u8.wrap n=n % 256:=by simp[IntKind.wrap,IntKind.signed,IntKind.bits]
theorem zoF(n:Int):IntKind.u32.wrap n=n % 4294967296:=by simp[IntKind.wrap,IntKind.signed,IntKind.bits]
theorem zoG(n:Int):IntKind.u64.wrap n=n % 18446744073709551616:=by simp[IntKind.wrap,IntKind.signed,IntKind.bits]
theorem qS(n:Int):IntKind.i64.wrap n=(n+9223372036854775808) % 18446744073709551616-9223372036854775808:=by
 simp only[IntKind.wrap,IntKind.signed,IntKind.bits];simp<;>(try split)<;>omega
theorem Sb{b:Nat}{a m:Int}(j:Nat)(h:0<=a)(hm:m=2 ^ j-1)(hj:j<=b):((BitVec.ofInt b a &&& BitVec.ofInt b m).toNat:Int)=a % 2 ^ j:=by
 obtain⟨n,rfl⟩:=Int.eq_ofNat_of_zero_le h
 have e1:BitVec.ofInt b (n:Int)=BitVec.ofNat b n:=by simp
 have e2:BitVec.ofInt b m=BitVec.ofNat b (2 ^ j-1):=by
  have:m=((2 ^ j-1:Nat):Int):=by
   rw[hm,Int.natCast_sub Nat.one_le_two_pow];simp
  rw[this,BitVec.ofInt_natCast]
 rw[e1,e2,BitVec.toNat_and,BitVec.toNat_ofNat,BitVec.toNat_ofNat]
 have h1:(2 ^ j-1) % 2 ^ b=2 ^ j-1:=Nat.mod_eq_of_lt (by
  have:=Nat.pow_le_pow_right (n:=2) (by omega) hj
  have:1<=2 ^ j:=Nat.one_le_two_pow
  omega)
 rw[h1,Nat.and_two_pow_sub_one_eq_mod,Nat.mod_mod_of_dvd _ (Nat.pow_dvd_pow 2 hj)]
 simp
theorem zoH(a:Int)(h:0<=a):IntKind.u8.wrap ((BitVec.ofInt IntKind.u8.bits a &&& BitVec.ofInt IntKind.u8.bits 1).toNat:Int)=a % 2:=by
 rw[od,Sb (j:=1) h (by decide) (by decide)]
 omega
end Go.Tr
