/- Parts, merged. -/
import Derived.Test.YtohjfjmjnkglgaaGreatDoorQk0
namespace Go.Proofs.YtohjfjmjnkglgaaGreatDoor
noncomputable section
def m_gen_New (a0:List Int):Option ((List Int)×Int):=
  some ((a0,0).1,(a0,0).2)
def m_ref9_two (a0:Int):Option (List UInt8):=
  some [u8i (Int.fdiv a0 (2^min (Int.toNat 8) IntKind.i64.bits)),u8i a0]
def m_ref9_Name (a0:Int):Option (List UInt8):=
  jn (λ(a:Bool)=>if a then(none)else(bnd1 (m_ref9_two a0) (λ y4=>need (List.length ([10]:List UInt8)+List.length y4≤9223372036854775807) (some ([10]++y4))))) (λ k3=>if a0<0 then(k3 true)else(k3 (decide (65535<a0))))
def m_ref9_ascending_B2 (a0:List (List UInt8)) (a1:Int) (k1:Unit->Option Bool) (a:Unit->Option Bool) (u:Unit):Option Bool:=
  if a1<(List.length a0:Int)then(none)else(k1 ())
def m_ref9_ascending_L2 (a0:List (List UInt8)) (a1:Int) (k1:Unit->Option Bool):Nat->Unit->Option Bool
  |0,_=>none
  |n+1,u=>m_ref9_ascending_B2 a0 a1 k1 (m_ref9_ascending_L2 a0 a1 k1 n) u
def m_ref9_ascending (a0:List (List UInt8)) (a1:Int):Option Bool:=
  jn (λ(_:Unit)=>some true) (λ k1=>m_ref9_ascending_L2 a0 a1 k1 FU ())
def m_ref9_number_B2 (a0:List UInt8) (k1:Int->Option Int) (c:Int->Int->Option Int) (b:Int) (a:Int):Option Int:=
  if a<8 then(need ((0:Int)≤a/\a<(List.length a0:Int)) (c (bOr .u64 (IntKind.u64.wrap (b*2^min (Int.toNat 8) IntKind.u64.bits)) (UInt8.toNat (gi a0 a):Int)) (i64 (a+1))))else(k1 b)
def m_ref9_number_L2 (a0:List UInt8) (k1:Int->Option Int):Nat->Int->Int->Option Int
  |0,_,_=>none
  |n+1,a,b=>m_ref9_number_B2 a0 k1 (m_ref9_number_L2 a0 k1 n) a b
def m_ref9_number (a0:List UInt8):Option Int:=
  jn (λ(a:Int)=>some (i64 (a))) (λ k1=>m_ref9_number_L2 a0 k1 FU 0 0)
def m_ref9_small (a0:List UInt8) (a1:Int) (a2:Int):Option Bool:=
  jn (λ(a:Bool)=>some a) (λ k1=>need ((0:Int)≤0/\0<(List.length a0:Int)) (if(UInt8.toNat (gi a0 0):Int)=1 then(need (1≤(List.length a0:Int)) (bnd1 (m_ref9_number (List.drop (Int.toNat 1) a0)) (λ y9=>if a1≤y9 then(need (1≤(List.length a0:Int)) (bnd1 (m_ref9_number (List.drop (Int.toNat 1) a0)) (λ y11=>k1 (decide (y11≤a2)))))else(k1 false))))else(k1 false)))
def m_ref9_parted (a0:Int) (a1:List (List UInt8)):Option Bool:=
  if a0=3 then(none)else(if a0=5 then(bnd1 (m_ref9_ascending a1 1) (λ y2=>some y2))else(if a0=6 then(none)else(if a0=7 then(jn (λ(a:Bool)=>some a) (λ k4=>if 1≤(List.length a1:Int)then(if(List.length a1:Int)≤9 then(need ((0:Int)≤0/\0<(List.length a1:Int)) (need ((0:Int)≤0/\0<(List.length (gi a1 0):Int)) (k4 (decide ((UInt8.toNat (gi (gi a1 0) 0):Int)=10)))))else(k4 false))else(k4 false)))else(if a0=8 then(none)else(if a0=9 then(jn (λ(b:Bool)=>some b) (λ k10=>if 1≤(List.length a1:Int)then(need ((0:Int)≤0/\0<(List.length a1:Int)) (bnd1 (m_ref9_small (gi a1 0) 1 21) (λ y14=>k10 y14)))else(k10 false)))else(none))))))
def m_ref9_walk_B2 (e:(List UInt8)->Int->Bool->Option (Int×(List (List UInt8))×Int)) (a0:List UInt8) (a1:Int) (a2:Bool) (k11:Int->Int->(List (List UInt8))->Option (Int×(List (List UInt8))×Int)) (f:Int->Int->(List (List UInt8))->Int->Option (Int×(List (List UInt8))×Int)) (a:Int) (c:Int) (b:List (List UInt8)) (d:Int):Option (Int×(List (List UInt8))×Int):=
  if d<(bOr .i64 (i64 ((UInt8.toNat (gi a0 1):Int)*2^min (Int.toNat 8) IntKind.i64.bits)) (UInt8.toNat (gi a0 2):Int))then(need ((0:Int)≤a/\a≤(List.length a0:Int)) (bnd1 (e (List.drop (Int.toNat a) a0) (i64 (a1 - 1)) a2) (λ y39=>if y39.1=0 then(none)else(need ((0:Int)≤a/\a≤i64 (a+y39.1)/\(i64 (a+y39.1))≤(List.length a0:Int)) (need (List.length b+List.length [List.take (Int.toNat (i64 (a+y39.1)) - Int.toNat a) (List.drop (Int.toNat a) a0)]≤137438953472) (f (i64 (a+y39.1)) (max c y39.2.2) (b++[List.take (Int.toNat (i64 (a+y39.1)) - Int.toNat a) (List.drop (Int.toNat a) a0)]) (i64 (d+1))))))))else(k11 a c b)
def m_ref9_walk_L2 (a:(List UInt8)->Int->Bool->Option (Int×(List (List UInt8))×Int)) (a0:List UInt8) (a1:Int) (a2:Bool) (k11:Int->Int->(List (List UInt8))->Option (Int×(List (List UInt8))×Int)):Nat->Int->Int->(List (List UInt8))->Int->Option (Int×(List (List UInt8))×Int)
  |0,_,_,_,_=>none
  |n+1,b,c,d,e=>m_ref9_walk_B2 a a0 a1 a2 k11 (m_ref9_walk_L2 a a0 a1 a2 k11 n) b c d e
def m_ref9_walk_F (b:(List UInt8)->Int->Bool->Option (Int×(List (List UInt8))×Int)) (a0:List UInt8) (a1:Int) (a2:Bool):Option (Int×(List (List UInt8))×Int):=
  jn (λ(c:Bool)=>if c then(none)else(need ((0:Int)≤0/\0<(List.length a0:Int)) (if(UInt8.toNat (gi a0 0):Int)=1 then(if(List.length a0:Int)<9 then(none)else(some (9,[],1)))else(if(UInt8.toNat (gi a0 0):Int)=2 then(none)else(jn (λ(d:Bool)=>if d then(none)else(if(UInt8.toNat (gi a0 0):Int)=10 then(some (3,[],1))else(need ((0:Int)≤1/\1<(List.length a0:Int)) (need ((0:Int)≤2/\2<(List.length a0:Int)) (jn (λ(e:Int) (f:Int) (a:List (List UInt8))=>jn (λ(g:List (List UInt8)) (h:Bool)=>if h then(none)else(some (e,g,i64 (f+1)))) (λ k49=>if a2 then(need ((0:Int)≤0/\0<(List.length a0:Int)) (bnd1 (m_ref9_parted (UInt8.toNat (gi a0 0):Int) a) (λ y53=>k49 a (!y53))))else(k49 a false))) (λ k11=>m_ref9_walk_L2 b a0 a1 a2 k11 FU 3 0 [] 0)))))) (λ k8=>if(List.length a0:Int)<3 then(k8 true)else(if(UInt8.toNat (gi a0 0):Int)<3 then(k8 true)else(k8 (decide (10<(UInt8.toNat (gi a0 0):Int))))))))))) (λ k3=>if(List.length a0:Int)<2 then(k3 true)else(k3 (decide (a1=0))))
def m_ref9_walk_S:Nat->((List UInt8)->Int->Bool->Option (Int×(List (List UInt8))×Int))
  |0=>(λ _ _ _=>none)
  |n+1=>m_ref9_walk_F (m_ref9_walk_S n)
def m_ref9_walk (a0:List UInt8) (a1:Int) (a2:Bool):Option (Int×(List (List UInt8))×Int):=m_ref9_walk_S FU a0 a1 a2
def m_ref9_read (a0:List UInt8) (a1:Int):Option (Int×(List (List UInt8))×Int):=
  bnd1 (m_ref9_walk a0 a1 true) (λ y1=>some (y1.1,y1.2.1,y1.2.2))
def m_ref9_Valid (a0:List UInt8):Option Bool:=
  if 131072<(List.length a0:Int)then(none)else(bnd1 (m_ref9_read a0 32) (λ y1=>jn (λ(a:Bool)=>some a) (λ k2=>if 0<y1.1 then(k2 (decide (y1.1=(List.length a0:Int))))else(k2 false))))
def m_ref9_all_B2 (a0:List (List UInt8)) (k1:Unit->Option Bool) (b:Int->Option Bool) (a:Int):Option Bool:=
  if a<(List.length a0:Int)then(need ((0:Int)≤a/\a<(List.length a0:Int)) (bnd1 (m_ref9_Valid (gi a0 a)) (λ y14=>if !y14 then(none)else(b (i64 (a+1))))))else(k1 ())
def m_ref9_all_L2 (a0:List (List UInt8)) (k1:Unit->Option Bool):Nat->Int->Option Bool
  |0,_=>none
  |n+1,a=>m_ref9_all_B2 a0 k1 (m_ref9_all_L2 a0 k1 n) a
def m_ref9_all (a0:List (List UInt8)):Option Bool:=
  jn (λ(_:Unit)=>some true) (λ k1=>m_ref9_all_L2 a0 k1 FU 0)
def m_ref9_checked (a0:List UInt8):Option (List UInt8):=
  bnd1 (m_ref9_Valid a0) (λ y1=>if y1 then(some a0)else(none))
def m_ref9_compound_B2 (a1:List (List UInt8)) (k3:(List UInt8)->Option (List UInt8)) (c:(List UInt8)->Int->Option (List UInt8)) (b:List UInt8) (a:Int):Option (List UInt8):=
  if a<(List.length a1:Int)then(jn (λ(d:Bool)=>if d then(none)else(need ((0:Int)≤a/\a<(List.length a1:Int)) (need (List.length (b:List UInt8)+List.length (gi a1 a)≤9223372036854775807) (c (b++(gi a1 a)) (i64 (a+1)))))) (λ k114=>need ((0:Int)≤a/\a<(List.length a1:Int)) (if(gi a1 a)=([]:List UInt8)then(k114 true)else(k114 (decide (131072<(List.length b:Int)))))))else(k3 b)
def m_ref9_compound_L2 (a1:List (List UInt8)) (k3:(List UInt8)->Option (List UInt8)):Nat->(List UInt8)->Int->Option (List UInt8)
  |0,_,_=>none
  |n+1,a,b=>m_ref9_compound_B2 a1 k3 (m_ref9_compound_L2 a1 k3 n) a b
def m_ref9_compound (a0:Int) (a1:List (List UInt8)):Option (List UInt8):=
  if 65535<(List.length a1:Int)then(none)else(bnd1 (m_ref9_two (List.length a1:Int)) (λ y1=>need (List.length ([u8i a0]:List UInt8)+List.length y1≤9223372036854775807) (jn (λ(a:List UInt8)=>bnd1 (m_ref9_read a 32) (λ y122=>jn (λ(b:Bool)=>if b then(none)else(bnd1 (m_ref9_checked a) (λ y124=>some y124))) (λ k123=>if¬y122.1=(List.length a:Int)then(k123 true)else(k123 (decide (¬(List.length y122.2.1:Int)=(List.length a1:Int))))))) (λ k3=>m_ref9_compound_L2 a1 k3 FU ([u8i a0]++y1) 0))))
def m_ref9_Make (a0:Int) (a1:List (List UInt8)):Option (List UInt8):=
  bnd1 (m_ref9_all a1) (λ y1=>if !y1 then(none)else(bnd1 (m_ref9_compound a0 a1) (λ y2=>some y2)))
def m_ref9_Dot (a0:Int) (a1:List (List UInt8)):Option (List UInt8):=
  bnd1 (m_ref9_Name a0) (λ y1=>need (List.length [y1]+List.length a1≤137438953472) (bnd1 (m_ref9_Make 7 ([y1]++a1)) (λ y5=>some y5)))
def zhc (a0:(List Int)×Int) (a1:Int):Option (Int×((List Int)×Int)):=
  if(List.length a0.1:Int)≤a0.2 then(some (0,(a0.1,a0.2)))else(none)
def m_gen_code_B2 (a2:List (List (Int×Int×Int))) (k2:(List (Int×Int×Int))->Option (List (Int×Int×Int))) (c:(List (Int×Int×Int))->Int->Option (List (Int×Int×Int))) (b:List (Int×Int×Int)) (a:Int):Option (List (Int×Int×Int)):=
  if a<(List.length a2:Int)then(need ((0:Int)≤a/\a<(List.length a2:Int)) (need (List.length b+List.length (gi a2 a)≤137438953472) (c (b++(gi a2 a)) (i64 (a+1)))))else(k2 b)
def m_gen_code_L2 (a2:List (List (Int×Int×Int))) (k2:(List (Int×Int×Int))->Option (List (Int×Int×Int))):Nat->(List (Int×Int×Int))->Int->Option (List (Int×Int×Int))
  |0,_,_=>none
  |n+1,a,b=>m_gen_code_B2 a2 k2 (m_gen_code_L2 a2 k2 n) a b
def m_gen_code (a0:Int) (a1:Int) (a2:List (List (Int×Int×Int))):Option (List (Int×Int×Int)):=
  jn (λ(a:List (Int×Int×Int))=>some a) (λ k2=>m_gen_code_L2 a2 k2 FU [(a0,a1,(List.length a2:Int))] 0)
def m_gen_Choices_body_F (b:((List Int)×Int)->Int->Int->Bool->Option ((List (Int×Int×Int))×((List Int)×Int))) (a0:(List Int)×Int) (a1:Int) (a2:Int) (a3:Bool):Option ((List (Int×Int×Int))×((List Int)×Int)):=
  bnd1 (zhc (a0.1,a0.2) 14) (λ y1=>if a1≤1 then(none)else(jn (λ(a:Int)=>if a=0 then(bnd1 (zhc (y1.2.1,y1.2.2) a2) (λ y14=>bnd1 (m_gen_code 7 y14.1 ([]:List (List (Int×Int×Int)))) (λ y15=>some (y15,(y14.2.1,y14.2.2)))))else(if a=1 then(none)else(if a=2 then(none)else(if a=3 then(none)else(jn (λ(c:Bool)=>if c then(bnd1 (zhc (y1.2.1,y1.2.2) 4) (λ y17=>bnd1 (m_gen_code 4 y17.1 ([]:List (List (Int×Int×Int)))) (λ y18=>bnd1 (b (y17.2.1,y17.2.2) (i64 (a1 - 1)) a2 false) (λ y19=>bnd1 (m_gen_code 50 0 [y18,y19.1]) (λ y20=>some (y20,(y19.2.1,y19.2.2)))))))else(if a=8 then(none)else(if a=9 then(none)else(if a=10 then(none)else(if a=11 then(none)else(if a=12 then(none)else(none))))))) (λ k16=>if a=4 then(k16 (decide (a=4)))else(if a=5 then(k16 (decide (a=5)))else(if a=6 then(k16 (decide (a=6)))else(k16 (decide (a=7))))))))))) (λ k3=>jn (λ(d:Bool)=>if d then(k3 4)else(k3 y1.1)) (λ k5=>if a3 then(if y1.1=0 then(k5 true)else(k5 (decide (y1.1=3))))else(k5 false)))))
def zhl:Nat->(((List Int)×Int)->Int->Int->Bool->Option ((List (Int×Int×Int))×((List Int)×Int)))
  |0=>(λ _ _ _ _=>none)
  |n+1=>m_gen_Choices_body_F (zhl n)
def m_gen_Choices_body (a0:(List Int)×Int) (a1:Int) (a2:Int) (a3:Bool):Option ((List (Int×Int×Int))×((List Int)×Int)):=zhl FU a0 a1 a2 a3
def m_gen_Choices_Core_B2 (k3:(List ((List UInt8)×Int×(List Int)×(List (List UInt8))))->(List (List UInt8))->Option (((List ((List UInt8)×Int×Bool×(Int×Int)×(List (Int×Int×Int))))×(List ((List UInt8)×Int×(List Int)×(List (List UInt8))))×(List (Int×Int×Int×Int×(Int×Int)))×(List (List UInt8)))×((List Int)×Int))) (d:(List ((List UInt8)×Int×(List Int)×(List (List UInt8))))->(List (List UInt8))->Int->Option (((List ((List UInt8)×Int×Bool×(Int×Int)×(List (Int×Int×Int))))×(List ((List UInt8)×Int×(List Int)×(List (List UInt8))))×(List (Int×Int×Int×Int×(Int×Int)))×(List (List UInt8)))×((List Int)×Int))) (b:List ((List UInt8)×Int×(List Int)×(List (List UInt8)))) (c:List (List UInt8)) (a:Int):Option (((List ((List UInt8)×Int×Bool×(Int×Int)×(List (Int×Int×Int))))×(List ((List UInt8)×Int×(List Int)×(List (List UInt8))))×(List (Int×Int×Int×Int×(Int×Int)))×(List (List UInt8)))×((List Int)×Int)):=
  if a<(List.length ([[97],[98],[99],[100]]):Int)then(need ((0:Int)≤a/\a<(List.length ([[97],[98],[99],[100]]):Int)) (need (List.length b+List.length ([((gi ([[97],[98],[99],[100]]) a,(-1),[],[]):(List UInt8)×Int×(List Int)×(List (List UInt8)))]:List ((List UInt8)×Int×(List Int)×(List (List UInt8))))≤137438953472) (bnd1 (m_ref9_Dot a ([]:List (List UInt8))) (λ y38=>need (List.length c+List.length [y38]≤137438953472) (d (b++([((gi ([[97],[98],[99],[100]]) a,(-1),[],[]):(List UInt8)×Int×(List Int)×(List (List UInt8)))]:List ((List UInt8)×Int×(List Int)×(List (List UInt8))))) (c++[y38]) (i64 (a+1)))))))else(k3 b c)
def m_gen_Choices_Core_L2 (k3:(List ((List UInt8)×Int×(List Int)×(List (List UInt8))))->(List (List UInt8))->Option (((List ((List UInt8)×Int×Bool×(Int×Int)×(List (Int×Int×Int))))×(List ((List UInt8)×Int×(List Int)×(List (List UInt8))))×(List (Int×Int×Int×Int×(Int×Int)))×(List (List UInt8)))×((List Int)×Int))):Nat->(List ((List UInt8)×Int×(List Int)×(List (List UInt8))))->(List (List UInt8))->Int->Option (((List ((List UInt8)×Int×Bool×(Int×Int)×(List (Int×Int×Int))))×(List ((List UInt8)×Int×(List Int)×(List (List UInt8))))×(List (Int×Int×Int×Int×(Int×Int)))×(List (List UInt8)))×((List Int)×Int))
  |0,_,_,_=>none
  |n+1,a,b,c=>m_gen_Choices_Core_B2 k3 (m_gen_Choices_Core_L2 k3 n) a b c
def m_gen_Choices_Core_B4 (a1:Int) (a2:Bool) (k41:(List Int)->Int->(List ((List UInt8)×Int×Bool×(Int×Int)×(List (Int×Int×Int))))->Option (((List ((List UInt8)×Int×Bool×(Int×Int)×(List (Int×Int×Int))))×(List ((List UInt8)×Int×(List Int)×(List (List UInt8))))×(List (Int×Int×Int×Int×(Int×Int)))×(List (List UInt8)))×((List Int)×Int))) (e:(List Int)->Int->(List ((List UInt8)×Int×Bool×(Int×Int)×(List (Int×Int×Int))))->Int->Option (((List ((List UInt8)×Int×Bool×(Int×Int)×(List (Int×Int×Int))))×(List ((List UInt8)×Int×(List Int)×(List (List UInt8))))×(List (Int×Int×Int×Int×(Int×Int)))×(List (List UInt8)))×((List Int)×Int))) (b:List Int) (c:Int) (a:List ((List UInt8)×Int×Bool×(Int×Int)×(List (Int×Int×Int)))) (d:Int):Option (((List ((List UInt8)×Int×Bool×(Int×Int)×(List (Int×Int×Int))))×(List ((List UInt8)×Int×(List Int)×(List (List UInt8))))×(List (Int×Int×Int×Int×(Int×Int)))×(List (List UInt8)))×((List Int)×Int)):=
  if d<a1 then(bnd1 (m_gen_Choices_body (b,c) 3 a1 a2) (λ y58=>need (List.length a+List.length ([(([],0,true,(0,0),y58.1):(List UInt8)×Int×Bool×(Int×Int)×(List (Int×Int×Int)))])≤137438953472) (e y58.2.1 y58.2.2 (a++([(([],0,true,(0,0),y58.1):(List UInt8)×Int×Bool×(Int×Int)×(List (Int×Int×Int)))])) (i64 (d+1)))))else(k41 b c a)
def m_gen_Choices_Core_L4 (a1:Int) (a2:Bool) (k41:(List Int)->Int->(List ((List UInt8)×Int×Bool×(Int×Int)×(List (Int×Int×Int))))->Option (((List ((List UInt8)×Int×Bool×(Int×Int)×(List (Int×Int×Int))))×(List ((List UInt8)×Int×(List Int)×(List (List UInt8))))×(List (Int×Int×Int×Int×(Int×Int)))×(List (List UInt8)))×((List Int)×Int))):Nat->(List Int)->Int->(List ((List UInt8)×Int×Bool×(Int×Int)×(List (Int×Int×Int))))->Int->Option (((List ((List UInt8)×Int×Bool×(Int×Int)×(List (Int×Int×Int))))×(List ((List UInt8)×Int×(List Int)×(List (List UInt8))))×(List (Int×Int×Int×Int×(Int×Int)))×(List (List UInt8)))×((List Int)×Int))
  |0,_,_,_,_=>none
  |n+1,a,b,c,d=>m_gen_Choices_Core_B4 a1 a2 k41 (m_gen_Choices_Core_L4 a1 a2 k41 n) a b c d
def m_gen_Choices_Core (a0:(List Int)×Int) (a1:Int) (a2:Bool):Option (((List ((List UInt8)×Int×Bool×(Int×Int)×(List (Int×Int×Int))))×(List ((List UInt8)×Int×(List Int)×(List (List UInt8))))×(List (Int×Int×Int×Int×(Int×Int)))×(List (List UInt8)))×((List Int)×Int)):=
  jn (λ(a:List ((List UInt8)×Int×(List Int)×(List (List UInt8)))) (b:List (List UInt8))=>jn (λ(d:List Int) (e:Int) (c:List ((List UInt8)×Int×Bool×(Int×Int)×(List (Int×Int×Int))))=>some (((c,a,(([],[],[],[]):(List ((List UInt8)×Int×Bool×(Int×Int)×(List (Int×Int×Int))))×(List ((List UInt8)×Int×(List Int)×(List (List UInt8))))×(List (Int×Int×Int×Int×(Int×Int)))×(List (List UInt8))).2.2.1,b).1,(c,a,(([],[],[],[]):(List ((List UInt8)×Int×Bool×(Int×Int)×(List (Int×Int×Int))))×(List ((List UInt8)×Int×(List Int)×(List (List UInt8))))×(List (Int×Int×Int×Int×(Int×Int)))×(List (List UInt8))).2.2.1,b).2.1,(c,a,(([],[],[],[]):(List ((List UInt8)×Int×Bool×(Int×Int)×(List (Int×Int×Int))))×(List ((List UInt8)×Int×(List Int)×(List (List UInt8))))×(List (Int×Int×Int×Int×(Int×Int)))×(List (List UInt8))).2.2.1,b).2.2.1,(c,a,(([],[],[],[]):(List ((List UInt8)×Int×Bool×(Int×Int)×(List (Int×Int×Int))))×(List ((List UInt8)×Int×(List Int)×(List (List UInt8))))×(List (Int×Int×Int×Int×(Int×Int)))×(List (List UInt8))).2.2.1,b).2.2.2),(d,e))) (λ k41=>m_gen_Choices_Core_L4 a1 a2 k41 FU a0.1 a0.2 [] 0)) (λ k3=>m_gen_Choices_Core_L2 k3 FU [] [] 0)
def m_ref9_eight_B2 (a0:Int) (k3:(List UInt8)->Option (List UInt8)) (c:(List UInt8)->Int->Option (List UInt8)) (b:List UInt8) (a:Int):Option (List UInt8):=
  if a<8 then(need (¬(IntKind.u64.wrap (i64 (8*a)))<0) (need ((0:Int)≤i64 (7 - a)/\(i64 (7 - a))<(List.length b:Int)) (c (List.set b (Int.toNat (i64 (7 - a))) (u8i (Int.fdiv (IntKind.u64.wrap (a0)) (2^min (Int.toNat (IntKind.u64.wrap (i64 (8*a)))) IntKind.u64.bits)))) (i64 (a+1)))))else(k3 b)
def m_ref9_eight_L2 (a0:Int) (k3:(List UInt8)->Option (List UInt8)):Nat->(List UInt8)->Int->Option (List UInt8)
  |0,_,_=>none
  |n+1,a,b=>m_ref9_eight_B2 a0 k3 (m_ref9_eight_L2 a0 k3 n) a b
def m_ref9_eight (a0:Int):Option (List UInt8):=
  need ((0:Int)≤8/\(8:Int)≤137438953472) (jn (λ(a:List UInt8)=>some a) (λ k3=>m_ref9_eight_L2 a0 k3 FU (List.replicate (Int.toNat 8) (0:UInt8)) 0))
def m_ref9_Int (a0:Int):Option (List UInt8):=
  bnd1 (m_ref9_eight a0) (λ y1=>need (List.length ([1]:List UInt8)+List.length y1≤9223372036854775807) (some ([1]++y1)))
def m_ref9_Numbered (a0:Int) (a1:Int) (a2:List (List UInt8)):Option (List UInt8):=
  bnd1 (m_ref9_Int a1) (λ y1=>need (List.length [y1]+List.length a2≤137438953472) (bnd1 (m_ref9_Make a0 ([y1]++a2)) (λ y5=>some y5)))
def zev (a0:List UInt8):Option (List (List UInt8)):=
  bnd1 (m_ref9_Valid a0) (λ y1=>if !y1 then(none)else(bnd1 (m_ref9_walk a0 32 false) (λ y2=>some y2.2.1)))
def m_ref9_Kind (a0:List UInt8):Option Int:=
  bnd1 (m_ref9_Valid a0) (λ y1=>if !y1 then(none)else(need ((0:Int)≤0/\0<(List.length a0:Int)) (some (UInt8.toNat (gi a0 0):Int))))
def zej (a0:List UInt8):Option Int:=
  bnd1 (m_ref9_Kind a0) (λ y1=>if y1=1 then(need (1≤(List.length a0:Int)) (bnd1 (m_ref9_number (List.drop (Int.toNat 1) a0)) (λ y3=>some y3)))else(if y1=2 then(none)else(if y1=10 then(none)else(none))))
def m_ref16_between (a0:List UInt8) (a1:Int) (a2:Int):Option Bool:=
  jn (λ(a:Bool)=>some a) (λ k1=>bnd1 (m_ref9_Kind a0) (λ y5=>if y5=1 then(bnd1 (zej a0) (λ y6=>if a1≤y6 then(bnd1 (zej a0) (λ y7=>k1 (decide (y7≤a2))))else(k1 false)))else(k1 false)))
def m_ref9_Compare (a0:List UInt8) (a1:List UInt8):Option Int:=
  none
def m_ref16_offered_B2 (b:(List UInt8)->Option Bool) (a0:List (List UInt8)) (k4:Unit->Option Bool) (c:Int->Option Bool) (a:Int):Option Bool:=
  if a<(List.length a0:Int)then(jn (λ(d:Bool)=>if d then(none)else(jn (λ(e:Bool)=>if e then(none)else(c (i64 (a+2)))) (λ k449=>if 0<a then(need ((0:Int)≤i64 (a - 2)/\(i64 (a - 2))<(List.length a0:Int)) (bnd1 (zej (gi a0 (i64 (a - 2)))) (λ y460=>need ((0:Int)≤a/\a<(List.length a0:Int)) (bnd1 (zej (gi a0 a)) (λ y462=>if y462<y460 then(k449 true)else(need ((0:Int)≤i64 (a - 2)/\(i64 (a - 2))<(List.length a0:Int)) (need ((0:Int)≤a/\a<(List.length a0:Int)) (if(gi a0 (i64 (a - 2)))=(gi a0 a)then(need ((0:Int)≤i64 (a - 1)/\(i64 (a - 1))<(List.length a0:Int)) (need ((0:Int)≤i64 (a+1)/\(i64 (a+1))<(List.length a0:Int)) (bnd1 (m_ref9_Compare (gi a0 (i64 (a - 1))) (gi a0 (i64 (a+1)))) (λ y467=>k449 (decide (0≤y467))))))else(k449 false)))))))))else(k449 false)))) (λ k440=>need ((0:Int)≤a/\a<(List.length a0:Int)) (bnd1 (m_ref16_between (gi a0 a) 2 1025) (λ y446=>if !y446 then(k440 true)else(need ((0:Int)≤i64 (a+1)/\(i64 (a+1))<(List.length a0:Int)) (bnd1 (b (gi a0 (i64 (a+1)))) (λ y448=>k440 (!y448))))))))else(k4 ())
def m_ref16_offered_L2 (a:(List UInt8)->Option Bool) (a0:List (List UInt8)) (k4:Unit->Option Bool):Nat->Int->Option Bool
  |0,_=>none
  |n+1,b=>m_ref16_offered_B2 a a0 k4 (m_ref16_offered_L2 a a0 k4 n) b
def m_ref16_offered (a:(List UInt8)->Option Bool) (a0:List (List UInt8)):Option Bool:=
  jn (λ(b:Bool)=>if b then(none)else(jn (λ(_:Unit)=>some true) (λ k4=>m_ref16_offered_L2 a a0 k4 FU 0))) (λ k3=>if(List.length a0:Int)=0 then(k3 true)else(k3 (decide ((Int.tmod (List.length a0:Int) 2)=1))))
def zgo (a0:Int):Option (List UInt8):=
  jn (λ(a:Bool)=>if a then(none)else(jn (λ(b:Bool)=>if b then(some [80,83,80])else(if a0=17 then(none)else(if a0=20 then(none)else(if a0=14 then(none)else(jn (λ(c:Bool)=>if c then(none)else(if a0=19 then(none)else(some ([]:List UInt8)))) (λ k7=>if a0=15 then(k7 (decide (a0=15)))else(k7 (decide (a0=18))))))))) (λ k6=>if a0=12 then(k6 (decide (a0=12)))else(if a0=13 then(k6 (decide (a0=13)))else(k6 (decide (a0=16))))))) (λ k5=>if a0=7 then(k5 (decide (a0=7)))else(if a0=8 then(k5 (decide (a0=8)))else(if a0=9 then(k5 (decide (a0=9)))else(if a0=10 then(k5 (decide (a0=10)))else(k5 (decide (a0=11)))))))
def m_ref16_numbers_B2 (a0:List (List UInt8)) (k1:(List Int)->Option ((List Int)×Bool)) (c:(List Int)->Int->Option ((List Int)×Bool)) (b:List Int) (a:Int):Option ((List Int)×Bool):=
  if a<(List.length a0:Int)then(need ((0:Int)≤a/\a<(List.length a0:Int)) (bnd1 (m_ref9_Kind (gi a0 a)) (λ y109=>if¬y109=1 then(none)else(need ((0:Int)≤a/\a<(List.length a0:Int)) (bnd1 (zej (gi a0 a)) (λ y111=>jn (λ(d:Bool)=>if d then(none)else(need (List.length b+List.length [y111]≤137438953472) (c (b++[y111]) (i64 (a+1))))) (λ k114=>if y111<(-1)then(k114 true)else(k114 (decide (1073741824<y111))))))))))else(k1 b)
def m_ref16_numbers_L2 (a0:List (List UInt8)) (k1:(List Int)->Option ((List Int)×Bool)):Nat->(List Int)->Int->Option ((List Int)×Bool)
  |0,_,_=>none
  |n+1,a,b=>m_ref16_numbers_B2 a0 k1 (m_ref16_numbers_L2 a0 k1 n) a b
def m_ref16_numbers (a0:List (List UInt8)):Option ((List Int)×Bool):=
  jn (λ(a:List Int)=>some (a,true)) (λ k1=>m_ref16_numbers_L2 a0 k1 FU [] 0)
def zgu (a0:Int):Option Bool:=
  jn (λ(a:Bool)=>some a) (λ k1=>if 2≤a0 then(k1 (decide (a0<1026)))else(k1 false))
def m_ref16_ValidSet_B2 (a0:List Int) (k1:Unit->Option Bool) (b:Int->Option Bool) (a:Int):Option Bool:=
  if a<(List.length a0:Int)then(jn (λ(c:Bool)=>if c then(none)else(b (i64 (a+1)))) (λ k108=>need ((0:Int)≤a/\a<(List.length a0:Int)) (bnd1 (zgu (gi a0 a)) (λ y114=>if !y114 then(k108 true)else(if 0<a then(need ((0:Int)≤a/\a<(List.length a0:Int)) (need ((0:Int)≤i64 (a - 1)/\(i64 (a - 1))<(List.length a0:Int)) (k108 (decide ((gi a0 a)≤(gi a0 (i64 (a - 1))))))))else(k108 false))))))else(k1 ())
def m_ref16_ValidSet_L2 (a0:List Int) (k1:Unit->Option Bool):Nat->Int->Option Bool
  |0,_=>none
  |n+1,a=>m_ref16_ValidSet_B2 a0 k1 (m_ref16_ValidSet_L2 a0 k1 n) a
def m_ref16_ValidSet (a0:List Int):Option Bool:=
  jn (λ(_:Unit)=>some true) (λ k1=>m_ref16_ValidSet_L2 a0 k1 FU 0)
def m_ref16_events (a0:List UInt8):Option ((List Int)×Bool):=
  bnd1 (zev a0) (λ y1=>bnd1 (m_ref16_numbers y1) (λ y2=>jn (λ(a:Bool)=>some (y2.1,a)) (λ k3=>if y2.2 then(bnd1 (m_ref9_Kind a0) (λ y6=>if y6=5 then(bnd1 (m_ref16_ValidSet y2.1) (λ y7=>k3 y7))else(k3 false)))else(k3 false))))
def m_ref16_term_B2 (b:(List UInt8)->Option Bool) (y1:(List (List UInt8))) (y23:(List UInt8)) (k24:Unit->Option Bool) (c:Int->Option Bool) (a:Int):Option Bool:=
  if a<(List.length (List.drop (Int.toNat 1) y1):Int)then(jn (λ(d:Bool)=>if !d then(none)else(c (i64 (a+1)))) (λ k153=>need ((0:Int)≤a/\a<(List.length y23:Int)) (if(gi y23 a)=80 then(need ((0:Int)≤a/\a<(List.length (List.drop (Int.toNat 1) y1):Int)) (bnd1 (b (gi (List.drop (Int.toNat 1) y1) a)) (λ y161=>k153 y161)))else(if(gi y23 a)=83 then(need ((0:Int)≤a/\a<(List.length (List.drop (Int.toNat 1) y1):Int)) (bnd1 (m_ref16_events (gi (List.drop (Int.toNat 1) y1) a)) (λ y163=>k153 y163.2)))else(none)))))else(k24 ())
def m_ref16_term_L2 (a:(List UInt8)->Option Bool) (y1:(List (List UInt8))) (y23:(List UInt8)) (k24:Unit->Option Bool):Nat->Int->Option Bool
  |0,_=>none
  |n+1,b=>m_ref16_term_B2 a y1 y23 k24 (m_ref16_term_L2 a y1 y23 k24 n) b
def m_ref16_term_F (a:(List UInt8)->Option Bool) (a0:List UInt8):Option Bool:=
  bnd1 (zev a0) (λ y1=>bnd1 (m_ref9_Kind a0) (λ y2=>if¬y2=9 then(none)else(need ((0:Int)≤0/\0<(List.length y1:Int)) (bnd1 (zej (gi y1 0)) (λ y4=>need (1≤(List.length y1:Int)) (jn (λ(b:Bool)=>if b then(some (decide ((List.length (List.drop (Int.toNat 1) y1):Int)=0)))else(if y4=5 then(none)else(if y4=21 then(jn (λ(c:Bool)=>some c) (λ k17=>if(List.length (List.drop (Int.toNat 1) y1):Int)=1 then(need ((0:Int)≤0/\0<(List.length (List.drop (Int.toNat 1) y1):Int)) (bnd1 (m_ref16_between (gi (List.drop (Int.toNat 1) y1) 0) 0 11) (λ y21=>k17 y21)))else(k17 false)))else(if y4=6 then(bnd1 (m_ref16_offered a (List.drop (Int.toNat 1) y1)) (λ y22=>some y22))else(bnd1 (zgo y4) (λ y23=>if¬(List.length (List.drop (Int.toNat 1) y1):Int)=(List.length y23:Int)then(none)else(jn (λ(_:Unit)=>some true) (λ k24=>m_ref16_term_L2 a y1 y23 k24 FU 0)))))))) (λ k15=>if y4=1 then(k15 (decide (y4=1)))else(if y4=2 then(k15 (decide (y4=2)))else(if y4=3 then(k15 (decide (y4=3)))else(k15 (decide (y4=4))))))))))))
def m_ref16_term_S:Nat->((List UInt8)->Option Bool)
  |0=>(λ _=>none)
  |n+1=>m_ref16_term_F (m_ref16_term_S n)
def m_ref16_term (a0:List UInt8):Option Bool:=m_ref16_term_S FU a0
def zfs (a0:List UInt8):Option Bool:=
  jn (λ(a:Bool)=>some a) (λ k1=>bnd1 (m_ref9_Valid a0) (λ y4=>if y4 then(bnd1 (m_ref16_term a0) (λ y5=>k1 y5))else(k1 false)))
def zid (a0:Int) (a1:List (List UInt8)):Option (List UInt8):=
  bnd1 (m_ref9_Numbered 9 a0 a1) (λ y1=>bnd1 (zfs y1) (λ y2=>if y2 then(some y1)else(none)))
def m_ref16_Prefix_B26 (a0:List (Int×(List UInt8))) (b:List (Int×(List UInt8))) (a:Int) (k1421:Unit->Option (List UInt8)) (d:Unit->Option (List UInt8)) (u:Unit):Option (List UInt8):=
  jn (λ(c:Bool)=>if c then(none)else(k1421 ())) (λ k1532=>if 0<(List.length b:Int)then(need ((0:Int)≤a/\a<(List.length a0:Int)) (need ((0:Int)≤0/\0<(List.length b:Int)) (if((gi b 0).1)<((gi a0 a).1)then(k1532 true)else(need ((0:Int)≤a/\a<(List.length a0:Int)) (need ((0:Int)≤0/\0<(List.length b:Int)) (if((gi b 0).1)=((gi a0 a).1)then(need ((0:Int)≤a/\a<(List.length a0:Int)) (need ((0:Int)≤0/\0<(List.length b:Int)) (bnd1 (m_ref9_Compare ((gi b 0).2) ((gi a0 a).2)) (λ y1546=>k1532 (decide (y1546<0))))))else(k1532 false)))))))else(k1532 false))
def m_ref16_Prefix_L26 (a0:List (Int×(List UInt8))) (a:List (Int×(List UInt8))) (b:Int) (k1421:Unit->Option (List UInt8)):Nat->Unit->Option (List UInt8)
  |0,_=>none
  |n+1,u=>m_ref16_Prefix_B26 a0 a b k1421 (m_ref16_Prefix_L26 a0 a b k1421 n) u
def m_ref16_Prefix_B14 (a0:List (Int×(List UInt8))) (k1:(List (Int×(List UInt8)))->Option (List UInt8)) (c:(List (Int×(List UInt8)))->Int->Option (List UInt8)) (a:List (Int×(List UInt8))) (b:Int):Option (List UInt8):=
  if b<(List.length a0:Int)then(jn (λ(d:List (Int×(List UInt8)))=>c d (i64 (b+1))) (λ k1238=>jn (λ(e:Bool)=>if e then(none)else(jn (λ(_:Unit)=>jn (λ(f:Bool)=>if f then(k1238 a)else(need (List.length a+List.length ([((0,[]):Int×(List UInt8))]:List (Int×(List UInt8)))≤137438953472) (need ((0:Int)≤i64 (0+1)/\(i64 (0+1))≤(List.length (a++([((0,[]):Int×(List UInt8))]:List (Int×(List UInt8)))):Int)/\(List.length (a++([((0,[]):Int×(List UInt8))]:List (Int×(List UInt8)))):Int)≤(List.length (a++([((0,[]):Int×(List UInt8))]:List (Int×(List UInt8)))):Int)) (need ((0:Int)≤0/\0≤(List.length (a++([((0,[]):Int×(List UInt8))]:List (Int×(List UInt8)))):Int)/\(List.length (a++([((0,[]):Int×(List UInt8))]:List (Int×(List UInt8)))):Int)≤(List.length (a++([((0,[]):Int×(List UInt8))]:List (Int×(List UInt8)))):Int)) (need ((0:Int)≤b/\b<(List.length a0:Int)) (need ((0:Int)≤0/\0<(List.length (List.take (Int.toNat (i64 (0+1))) (a++([((0,[]):Int×(List UInt8))]:List (Int×(List UInt8))))++List.take (Nat.min (Int.toNat (List.length (a++([((0,[]):Int×(List UInt8))]:List (Int×(List UInt8)))):Int) - Int.toNat 0) (Int.toNat (List.length (a++([((0,[]):Int×(List UInt8))]:List (Int×(List UInt8)))):Int) - Int.toNat (i64 (0+1)))) (List.drop (Int.toNat 0) (a++([((0,[]):Int×(List UInt8))]:List (Int×(List UInt8)))))++List.drop (Int.toNat (i64 (0+1))+(Nat.min (Int.toNat (List.length (a++([((0,[]):Int×(List UInt8))]:List (Int×(List UInt8)))):Int) - Int.toNat 0) (Int.toNat (List.length (a++([((0,[]):Int×(List UInt8))]:List (Int×(List UInt8)))):Int) - Int.toNat (i64 (0+1))))) (a++([((0,[]):Int×(List UInt8))]:List (Int×(List UInt8))))):Int)) (k1238 (List.set (List.take (Int.toNat (i64 (0+1))) (a++([((0,[]):Int×(List UInt8))]:List (Int×(List UInt8))))++List.take (Nat.min (Int.toNat (List.length (a++([((0,[]):Int×(List UInt8))]:List (Int×(List UInt8)))):Int) - Int.toNat 0) (Int.toNat (List.length (a++([((0,[]):Int×(List UInt8))]:List (Int×(List UInt8)))):Int) - Int.toNat (i64 (0+1)))) (List.drop (Int.toNat 0) (a++([((0,[]):Int×(List UInt8))]:List (Int×(List UInt8)))))++List.drop (Int.toNat (i64 (0+1))+(Nat.min (Int.toNat (List.length (a++([((0,[]):Int×(List UInt8))]:List (Int×(List UInt8)))):Int) - Int.toNat 0) (Int.toNat (List.length (a++([((0,[]):Int×(List UInt8))]:List (Int×(List UInt8)))):Int) - Int.toNat (i64 (0+1))))) (a++([((0,[]):Int×(List UInt8))]:List (Int×(List UInt8))))) (Int.toNat 0) (gi a0 b))))))))) (λ k1553=>if 0<(List.length a:Int)then(need ((0:Int)≤b/\b<(List.length a0:Int)) (need ((0:Int)≤0/\0<(List.length a:Int)) (k1553 (decide ((gi a 0)=(gi a0 b))))))else(k1553 false))) (λ k1421=>m_ref16_Prefix_L26 a0 a b k1421 FU ()))) (λ k1412=>need ((0:Int)≤b/\b<(List.length a0:Int)) (bnd1 (zgu ((gi a0 b).1)) (λ y1418=>if !y1418 then(k1412 true)else(need ((0:Int)≤b/\b<(List.length a0:Int)) (bnd1 (zfs ((gi a0 b).2)) (λ y1420=>k1412 (!y1420)))))))))else(k1 a)
def m_ref16_Prefix_L14 (a0:List (Int×(List UInt8))) (k1:(List (Int×(List UInt8)))->Option (List UInt8)):Nat->(List (Int×(List UInt8)))->Int->Option (List UInt8)
  |0,_,_=>none
  |n+1,a,b=>m_ref16_Prefix_B14 a0 k1 (m_ref16_Prefix_L14 a0 k1 n) a b
def m_ref16_Prefix_B28 (b:List (Int×(List UInt8))) (k1564:(List (List UInt8))->Option (List UInt8)) (d:(List (List UInt8))->Int->Option (List UInt8)) (c:List (List UInt8)) (a:Int):Option (List UInt8):=
  if a<(List.length b:Int)then(need ((0:Int)≤a/\a<(List.length b:Int)) (bnd1 (m_ref9_Int ((gi b a).1)) (λ y1592=>need ((0:Int)≤a/\a<(List.length b:Int)) (need (List.length c+List.length [y1592,(gi b a).2]≤137438953472) (d (c++[y1592,(gi b a).2]) (i64 (a+1)))))))else(k1564 c)
def m_ref16_Prefix_L28 (a:List (Int×(List UInt8))) (k1564:(List (List UInt8))->Option (List UInt8)):Nat->(List (List UInt8))->Int->Option (List UInt8)
  |0,_,_=>none
  |n+1,b,c=>m_ref16_Prefix_B28 a k1564 (m_ref16_Prefix_L28 a k1564 n) b c
def m_ref16_Prefix (a0:List (Int×(List UInt8))):Option (List UInt8):=
  jn (λ(a:List (Int×(List UInt8)))=>if(List.length a:Int)=0 then(none)else(jn (λ(b:List (List UInt8))=>bnd1 (zid 6 b) (λ y1596=>some y1596)) (λ k1564=>m_ref16_Prefix_L28 a k1564 FU [] 0))) (λ k1=>m_ref16_Prefix_L14 a0 k1 FU [] 0)
def m_law22_prefix (a0:Int):Option (List UInt8):=
  bnd1 (zid 2 ([]:List (List UInt8))) (λ y1=>bnd1 (m_ref16_Prefix [(a0,y1)]) (λ y2=>some y2))
def m_ref16_Set_B2 (a0:List Int) (k2:(List Bool)->Option (List Int)) (c:(List Bool)->Int->Option (List Int)) (b:List Bool) (a:Int):Option (List Int):=
  if a<(List.length a0:Int)then(jn (λ(d:List Bool)=>c d (i64 (a+1))) (λ k49=>need ((0:Int)≤a/\a<(List.length a0:Int)) (bnd1 (zgu (gi a0 a)) (λ y55=>if y55 then(need ((0:Int)≤a/\a<(List.length a0:Int)) (need ((0:Int)≤i64 ((gi a0 a) - 2)/\(i64 ((gi a0 a) - 2))<1024/\(i64 ((gi a0 a) - 2))<(List.length b:Int)) (k49 (List.set b (Int.toNat (i64 ((gi a0 a) - 2))) true))))else(k49 b)))))else(k2 b)
def m_ref16_Set_L2 (a0:List Int) (k2:(List Bool)->Option (List Int)):Nat->(List Bool)->Int->Option (List Int)
  |0,_,_=>none
  |n+1,a,b=>m_ref16_Set_B2 a0 k2 (m_ref16_Set_L2 a0 k2 n) a b
def m_ref16_Set_B4 (c:List Bool) (k58:(List Int)->Option (List Int)) (d:(List Int)->Int->Option (List Int)) (b:List Int) (a:Int):Option (List Int):=
  if a<1024 then(jn (λ(e:List Int)=>d e (i64 (a+1))) (λ k95=>need ((0:Int)≤a/\a<1024/\a<(List.length c:Int)) (if gi c a then(need (List.length b+List.length [i64 (2+a)]≤137438953472) (k95 (b++[i64 (2+a)])))else(k95 b))))else(k58 b)
def m_ref16_Set_L4 (a:List Bool) (k58:(List Int)->Option (List Int)):Nat->(List Int)->Int->Option (List Int)
  |0,_,_=>none
  |n+1,b,c=>m_ref16_Set_B4 a k58 (m_ref16_Set_L4 a k58 n) b c
def m_ref16_Set (a0:List Int):Option (List Int):=
  jn (λ(a:List Bool)=>jn (λ(b:List Int)=>some b) (λ k58=>m_ref16_Set_L4 a k58 FU [] 0)) (λ k2=>m_ref16_Set_L2 a0 k2 FU (List.replicate 1024 (false:Bool)) 0)
def m_ref9_Sort_B26 (a0:List (List UInt8)) (a:List (List UInt8)) (b:Int) (k745:Unit->Option (List (List UInt8))) (d:Unit->Option (List (List UInt8))) (u:Unit):Option (List (List UInt8)):=
  jn (λ(c:Bool)=>if c then(none)else(k745 ())) (λ k800=>if 0<(List.length a:Int)then(need ((0:Int)≤b/\b<(List.length a0:Int)) (need ((0:Int)≤i64 ((List.length a:Int) - 1)/\(i64 ((List.length a:Int) - 1))<(List.length a:Int)) (bnd1 (m_ref9_Compare (gi a (i64 ((List.length a:Int) - 1))) (gi a0 b)) (λ y806=>k800 (decide (0<y806))))))else(k800 false))
def m_ref9_Sort_L26 (a0:List (List UInt8)) (a:List (List UInt8)) (b:Int) (k745:Unit->Option (List (List UInt8))):Nat->Unit->Option (List (List UInt8))
  |0,_=>none
  |n+1,u=>m_ref9_Sort_B26 a0 a b k745 (m_ref9_Sort_L26 a0 a b k745 n) u
def m_ref9_Sort_B14 (a0:List (List UInt8)) (k1:(List (List UInt8))->Option (List (List UInt8))) (c:(List (List UInt8))->Int->Option (List (List UInt8))) (a:List (List UInt8)) (b:Int):Option (List (List UInt8)):=
  if b<(List.length a0:Int)then(jn (λ(d:List (List UInt8))=>c d (i64 (b+1))) (λ k664=>jn (λ(_:Unit)=>jn (λ(e:Bool)=>if e then(k664 a)else(need (List.length a+List.length ([([]:List UInt8)])≤137438953472) (need ((0:Int)≤i64 ((List.length a:Int)+1)/\(i64 ((List.length a:Int)+1))≤(List.length (a++([([]:List UInt8)])):Int)/\(List.length (a++([([]:List UInt8)])):Int)≤(List.length (a++([([]:List UInt8)])):Int)) (need ((0:Int)≤(List.length a:Int)/\(List.length a:Int)≤(List.length (a++([([]:List UInt8)])):Int)/\(List.length (a++([([]:List UInt8)])):Int)≤(List.length (a++([([]:List UInt8)])):Int)) (need ((0:Int)≤b/\b<(List.length a0:Int)) (need ((0:Int)≤(List.length a:Int)/\(List.length a:Int)<(List.length (List.take (Int.toNat (i64 ((List.length a:Int)+1))) (a++([([]:List UInt8)]))++List.take (Nat.min (Int.toNat (List.length (a++([([]:List UInt8)])):Int) - Int.toNat (List.length a:Int)) (Int.toNat (List.length (a++([([]:List UInt8)])):Int) - Int.toNat (i64 ((List.length a:Int)+1)))) (List.drop (Int.toNat (List.length a:Int)) (a++([([]:List UInt8)])))++List.drop (Int.toNat (i64 ((List.length a:Int)+1))+(Nat.min (Int.toNat (List.length (a++([([]:List UInt8)])):Int) - Int.toNat (List.length a:Int)) (Int.toNat (List.length (a++([([]:List UInt8)])):Int) - Int.toNat (i64 ((List.length a:Int)+1))))) (a++([([]:List UInt8)]))):Int)) (k664 (List.set (List.take (Int.toNat (i64 ((List.length a:Int)+1))) (a++([([]:List UInt8)]))++List.take (Nat.min (Int.toNat (List.length (a++([([]:List UInt8)])):Int) - Int.toNat (List.length a:Int)) (Int.toNat (List.length (a++([([]:List UInt8)])):Int) - Int.toNat (i64 ((List.length a:Int)+1)))) (List.drop (Int.toNat (List.length a:Int)) (a++([([]:List UInt8)])))++List.drop (Int.toNat (i64 ((List.length a:Int)+1))+(Nat.min (Int.toNat (List.length (a++([([]:List UInt8)])):Int) - Int.toNat (List.length a:Int)) (Int.toNat (List.length (a++([([]:List UInt8)])):Int) - Int.toNat (i64 ((List.length a:Int)+1))))) (a++([([]:List UInt8)]))) (Int.toNat (List.length a:Int)) (gi a0 b))))))))) (λ k813=>if 0<(List.length a:Int)then(need ((0:Int)≤b/\b<(List.length a0:Int)) (need ((0:Int)≤i64 ((List.length a:Int) - 1)/\(i64 ((List.length a:Int) - 1))<(List.length a:Int)) (k813 (decide ((gi a (i64 ((List.length a:Int) - 1)))=(gi a0 b))))))else(k813 false))) (λ k745=>m_ref9_Sort_L26 a0 a b k745 FU ())))else(k1 a)
def m_ref9_Sort_L14 (a0:List (List UInt8)) (k1:(List (List UInt8))->Option (List (List UInt8))):Nat->(List (List UInt8))->Int->Option (List (List UInt8))
  |0,_,_=>none
  |n+1,a,b=>m_ref9_Sort_B14 a0 k1 (m_ref9_Sort_L14 a0 k1 n) a b
def m_ref9_Sort (a0:List (List UInt8)):Option (List (List UInt8)):=
  jn (λ(a:List (List UInt8))=>some a) (λ k1=>m_ref9_Sort_L14 a0 k1 FU [] 0)
def m_ref9_Set (a0:List (List UInt8)):Option (List UInt8):=
  bnd1 (m_ref9_all a0) (λ y1=>if !y1 then(none)else(bnd1 (m_ref9_Sort a0) (λ y2=>bnd1 (m_ref9_compound 5 y2) (λ y3=>some y3))))
def m_ref16_SetValue_B2 (a0:List Int) (k2:Unit->Option (List UInt8)) (b:Int->Option (List UInt8)) (a:Int):Option (List UInt8):=
  if a<(List.length a0:Int)then(need ((0:Int)≤a/\a<(List.length a0:Int)) (bnd1 (zgu (gi a0 a)) (λ y15=>if !y15 then(none)else(b (i64 (a+1))))))else(k2 ())
def m_ref16_SetValue_L2 (a0:List Int) (k2:Unit->Option (List UInt8)):Nat->Int->Option (List UInt8)
  |0,_=>none
  |n+1,a=>m_ref16_SetValue_B2 a0 k2 (m_ref16_SetValue_L2 a0 k2 n) a
def m_ref16_SetValue_B4 (y1:(List Int)) (k16:(List (List UInt8))->Option (List UInt8)) (c:(List (List UInt8))->Int->Option (List UInt8)) (b:List (List UInt8)) (a:Int):Option (List UInt8):=
  if a<(List.length y1:Int)then(need ((0:Int)≤a/\a<(List.length y1:Int)) (bnd1 (m_ref9_Int (gi y1 a)) (λ y39=>need (List.length b+List.length [y39]≤137438953472) (c (b++[y39]) (i64 (a+1))))))else(k16 b)
def m_ref16_SetValue_L4 (y1:(List Int)) (k16:(List (List UInt8))->Option (List UInt8)):Nat->(List (List UInt8))->Int->Option (List UInt8)
  |0,_,_=>none
  |n+1,a,b=>m_ref16_SetValue_B4 y1 k16 (m_ref16_SetValue_L4 y1 k16 n) a b
def m_ref16_SetValue (a0:List Int):Option (List UInt8):=
  bnd1 (m_ref16_Set a0) (λ y1=>jn (λ(_:Unit)=>jn (λ(a:List (List UInt8))=>bnd1 (m_ref9_Set a) (λ y42=>some y42)) (λ k16=>m_ref16_SetValue_L4 y1 k16 FU [] 0)) (λ k2=>m_ref16_SetValue_L2 a0 k2 FU 0))
def m_ref16_Guarded (a0:Int) (a1:List UInt8) (a2:List Int) (a3:List UInt8):Option (List UInt8):=
  bnd1 (zgo a0) (λ y1=>if¬y1=[80,83,80]then(none)else(bnd1 (m_ref16_SetValue a2) (λ y2=>bnd1 (zid a0 [a1,y2,a3]) (λ y3=>some y3))))
def m_ref21_Clean_B2 (b:(List UInt8)->Option Bool) (y1:(List (List UInt8))) (k11:Unit->Option Bool) (c:Int->Option Bool) (a:Int):Option Bool:=
  if a<(List.length y1:Int)then(need ((0:Int)≤a/\a<(List.length y1:Int)) (bnd1 (b (gi y1 a)) (λ y24=>if !y24 then(none)else(c (i64 (a+1))))))else(k11 ())
def m_ref21_Clean_L2 (a:(List UInt8)->Option Bool) (y1:(List (List UInt8))) (k11:Unit->Option Bool):Nat->Int->Option Bool
  |0,_=>none
  |n+1,b=>m_ref21_Clean_B2 a y1 k11 (m_ref21_Clean_L2 a y1 k11 n) b
def m_ref21_Clean_F (a:(List UInt8)->Option Bool) (a0:List UInt8):Option Bool:=
  bnd1 (zev a0) (λ y1=>jn (λ(_:Unit)=>jn (λ(_:Unit)=>some true) (λ k11=>m_ref21_Clean_L2 a y1 k11 FU 0)) (λ k2=>bnd1 (m_ref9_Kind a0) (λ y7=>if y7=9 then(need ((0:Int)≤0/\0<(List.length y1:Int)) (bnd1 (zej (gi y1 0)) (λ y9=>jn (λ(b:Bool)=>if b then(none)else(k2 ())) (λ k10=>if y9=21 then(k10 true)else(k10 (decide (y9=4)))))))else(k2 ()))))
def m_ref21_Clean_S:Nat->((List UInt8)->Option Bool)
  |0=>(λ _=>none)
  |n+1=>m_ref21_Clean_F (m_ref21_Clean_S n)
def m_ref21_Clean (a0:List UInt8):Option Bool:=m_ref21_Clean_S FU a0
def zeo (a0:List UInt8):Option Int:=
  bnd1 (zfs a0) (λ y1=>if !y1 then(none)else(bnd1 (zev a0) (λ y2=>need ((0:Int)≤0/\0<(List.length y2:Int)) (bnd1 (zej (gi y2 0)) (λ y4=>some y4)))))
def m_ref18_Head_B2 (a1:List UInt8) (k1:Unit->Option ((List UInt8)×Int)) (a:Unit->Option ((List UInt8)×Int)) (u:Unit):Option ((List UInt8)×Int):=
  bnd1 (zeo a1) (λ y6=>if y6=5 then(none)else(k1 ()))
def m_ref18_Head_L2 (a1:List UInt8) (k1:Unit->Option ((List UInt8)×Int)):Nat->Unit->Option ((List UInt8)×Int)
  |0,_=>none
  |n+1,u=>m_ref18_Head_B2 a1 k1 (m_ref18_Head_L2 a1 k1 n) u
def m_ref18_Head (a0:(List ((List UInt8)×Int×Bool×(Int×Int)×(List (Int×Int×Int))))×(List ((List UInt8)×Int×(List Int)×(List (List UInt8))))×(List (Int×Int×Int×Int×(Int×Int)))×(List (List UInt8))) (a1:List UInt8):Option ((List UInt8)×Int):=
  jn (λ(_:Unit)=>bnd1 (zfs a1) (λ y7=>if !y7 then(none)else(some (a1,0)))) (λ k1=>m_ref18_Head_L2 a1 k1 FU ())
def zfk (a0:Int):Option Bool:=
  jn (λ(a:Bool)=>some a) (λ k1=>if a0=16 then(k1 true)else(if a0=17 then(k1 true)else(k1 (decide (a0=20)))))
def zfh (a0:Int):Option Bool:=
  jn (λ(a:Bool)=>if a then(none)else(bnd1 (zfk a0) (λ y4=>some y4))) (λ k3=>if a0=14 then(k3 (decide (a0=14)))else(if a0=15 then(k3 (decide (a0=15)))else(if a0=7 then(k3 (decide (a0=7)))else(if a0=13 then(k3 (decide (a0=13)))else(if a0=10 then(k3 (decide (a0=10)))else(if a0=11 then(k3 (decide (a0=11)))else(if a0=12 then(k3 (decide (a0=12)))else(k3 (decide (a0=9))))))))))
def m_ref16_Operands_B4 (y2:(List (List UInt8))) (k25:(List (List UInt8))->Option (List (List UInt8))) (c:(List (List UInt8))->Int->Option (List (List UInt8))) (b:List (List UInt8)) (a:Int):Option (List (List UInt8)):=
  if a<(List.length y2:Int)then(need ((0:Int)≤a/\a<(List.length y2:Int)) (need (List.length b+List.length [gi y2 a]≤137438953472) (c (b++[gi y2 a]) (i64 (a+2)))))else(k25 b)
def m_ref16_Operands_L4 (y2:(List (List UInt8))) (k25:(List (List UInt8))->Option (List (List UInt8))):Nat->(List (List UInt8))->Int->Option (List (List UInt8))
  |0,_,_=>none
  |n+1,a,b=>m_ref16_Operands_B4 y2 k25 (m_ref16_Operands_L4 y2 k25 n) a b
def m_ref16_Operands_B6 (y2:(List (List UInt8))) (y45:(List UInt8)) (k46:(List (List UInt8))->Option (List (List UInt8))) (c:(List (List UInt8))->Int->Option (List (List UInt8))) (b:List (List UInt8)) (a:Int):Option (List (List UInt8)):=
  if a<(List.length y45:Int)then(jn (λ(d:List (List UInt8))=>c d (i64 (a+1))) (λ k93=>need ((0:Int)≤a/\a<(List.length y45:Int)) (if(gi y45 a)=80 then(need ((0:Int)≤i64 (a+1)/\(i64 (a+1))<(List.length y2:Int)) (need (List.length b+List.length [gi y2 (i64 (a+1))]≤137438953472) (k93 (b++[gi y2 (i64 (a+1))]))))else(k93 b))))else(k46 b)
def m_ref16_Operands_L6 (y2:(List (List UInt8))) (y45:(List UInt8)) (k46:(List (List UInt8))->Option (List (List UInt8))):Nat->(List (List UInt8))->Int->Option (List (List UInt8))
  |0,_,_=>none
  |n+1,a,b=>m_ref16_Operands_B6 y2 y45 k46 (m_ref16_Operands_L6 y2 y45 k46 n) a b
def zdd (a0:List UInt8):Option (List (List UInt8)):=
  bnd1 (zeo a0) (λ y1=>bnd1 (zev a0) (λ y2=>jn (λ(_:Unit)=>bnd1 (zgo y1) (λ y45=>jn (λ(a:List (List UInt8))=>some a) (λ k46=>m_ref16_Operands_L6 y2 y45 k46 FU [] 0))) (λ k3=>if y1=6 then(jn (λ(b:List (List UInt8))=>some b) (λ k25=>m_ref16_Operands_L4 y2 k25 FU [] 2))else(k3 ()))))
def zhi (c:(((List ((List UInt8)×Int×Bool×(Int×Int)×(List (Int×Int×Int))))×(List ((List UInt8)×Int×(List Int)×(List (List UInt8))))×(List (Int×Int×Int×Int×(Int×Int)))×(List (List UInt8)))×(List ((List UInt8)×(List UInt8)×(List Int)×Bool))×Int)->Int->Option Bool) (a0:((List ((List UInt8)×Int×Bool×(Int×Int)×(List (Int×Int×Int))))×(List ((List UInt8)×Int×(List Int)×(List (List UInt8))))×(List (Int×Int×Int×Int×(Int×Int)))×(List (List UInt8)))×(List ((List UInt8)×(List UInt8)×(List Int)×Bool))×Int) (a1:Int) (a:Int) (k258:Unit->Option Bool) (d:Int->Option Bool) (b:Int):Option Bool:=
  need ((0:Int)≤a/\a<(List.length a0.2.1:Int)) (if b<(List.length ((gi a0.2.1 a).2.2.1):Int)then(need ((0:Int)≤a/\a<(List.length a0.2.1:Int)) (need ((0:Int)≤b/\b<(List.length ((gi a0.2.1 a).2.2.1):Int)) (if(gi ((gi a0.2.1 a).2.2.1) b)=a1 then(jn (λ(e:Bool)=>some e) (λ k303=>need ((0:Int)≤a/\a<(List.length a0.2.1:Int)) (if(gi a0.2.1 a).2.2.2 then(bnd1 (c ((a0.1.1,a0.1.2.1,a0.1.2.2.1,a0.1.2.2.2),a0.2.1,a0.2.2) a) (λ y307=>k303 y307))else(k303 false))))else(d (i64 (b+1))))))else(k258 ()))
def zhh (a:(((List ((List UInt8)×Int×Bool×(Int×Int)×(List (Int×Int×Int))))×(List ((List UInt8)×Int×(List Int)×(List (List UInt8))))×(List (Int×Int×Int×Int×(Int×Int)))×(List (List UInt8)))×(List ((List UInt8)×(List UInt8)×(List Int)×Bool))×Int)->Int->Option Bool) (a0:((List ((List UInt8)×Int×Bool×(Int×Int)×(List (Int×Int×Int))))×(List ((List UInt8)×Int×(List Int)×(List (List UInt8))))×(List (Int×Int×Int×Int×(Int×Int)))×(List (List UInt8)))×(List ((List UInt8)×(List UInt8)×(List Int)×Bool))×Int) (a1:Int) (b:Int) (k258:Unit->Option Bool):Nat->Int->Option Bool
  |0,_=>none
  |n+1,c=>zhi a a0 a1 b k258 (zhh a a0 a1 b k258 n) c
def zhr (b:(((List ((List UInt8)×Int×Bool×(Int×Int)×(List (Int×Int×Int))))×(List ((List UInt8)×Int×(List Int)×(List (List UInt8))))×(List (Int×Int×Int×Int×(Int×Int)))×(List (List UInt8)))×(List ((List UInt8)×(List UInt8)×(List Int)×Bool))×Int)->Int->Option Bool) (a0:((List ((List UInt8)×Int×Bool×(Int×Int)×(List (Int×Int×Int))))×(List ((List UInt8)×Int×(List Int)×(List (List UInt8))))×(List (Int×Int×Int×Int×(Int×Int)))×(List (List UInt8)))×(List ((List UInt8)×(List UInt8)×(List Int)×Bool))×Int) (a1:Int) (k1:Unit->Option Bool) (c:Int->Option Bool) (a:Int):Option Bool:=
  if a<(List.length a0.2.1:Int)then(jn (λ(_:Unit)=>c (i64 (a+1))) (λ k258=>zhh b a0 a1 a k258 FU 0))else(k1 ())
def zhu (a:(((List ((List UInt8)×Int×Bool×(Int×Int)×(List (Int×Int×Int))))×(List ((List UInt8)×Int×(List Int)×(List (List UInt8))))×(List (Int×Int×Int×Int×(Int×Int)))×(List (List UInt8)))×(List ((List UInt8)×(List UInt8)×(List Int)×Bool))×Int)->Int->Option Bool) (a0:((List ((List UInt8)×Int×Bool×(Int×Int)×(List (Int×Int×Int))))×(List ((List UInt8)×Int×(List Int)×(List (List UInt8))))×(List (Int×Int×Int×Int×(Int×Int)))×(List (List UInt8)))×(List ((List UInt8)×(List UInt8)×(List Int)×Bool))×Int) (a1:Int) (k1:Unit->Option Bool):Nat->Int->Option Bool
  |0,_=>none
  |n+1,b=>zhr a a0 a1 k1 (zhu a a0 a1 k1 n) b
def m_ref21_builder_under_F (a:(((List ((List UInt8)×Int×Bool×(Int×Int)×(List (Int×Int×Int))))×(List ((List UInt8)×Int×(List Int)×(List (List UInt8))))×(List (Int×Int×Int×Int×(Int×Int)))×(List (List UInt8)))×(List ((List UInt8)×(List UInt8)×(List Int)×Bool))×Int)->Int->Option Bool) (a0:((List ((List UInt8)×Int×Bool×(Int×Int)×(List (Int×Int×Int))))×(List ((List UInt8)×Int×(List Int)×(List (List UInt8))))×(List (Int×Int×Int×Int×(Int×Int)))×(List (List UInt8)))×(List ((List UInt8)×(List UInt8)×(List Int)×Bool))×Int) (a1:Int):Option Bool:=
  jn (λ(_:Unit)=>some true) (λ k1=>zhu a a0 a1 k1 FU 0)
def zgl:Nat->((((List ((List UInt8)×Int×Bool×(Int×Int)×(List (Int×Int×Int))))×(List ((List UInt8)×Int×(List Int)×(List (List UInt8))))×(List (Int×Int×Int×Int×(Int×Int)))×(List (List UInt8)))×(List ((List UInt8)×(List UInt8)×(List Int)×Bool))×Int)->Int->Option Bool)
  |0=>(λ _ _=>none)
  |n+1=>m_ref21_builder_under_F (zgl n)
def m_ref21_builder_under (a0:((List ((List UInt8)×Int×Bool×(Int×Int)×(List (Int×Int×Int))))×(List ((List UInt8)×Int×(List Int)×(List (List UInt8))))×(List (Int×Int×Int×Int×(Int×Int)))×(List (List UInt8)))×(List ((List UInt8)×(List UInt8)×(List Int)×Bool))×Int) (a1:Int):Option Bool:=zgl FU a0 a1
def m_ref21_b2i (a0:Bool):Option Int:=
  if a0 then(some 1)else(some 0)
def m_ref21_Hole (a0:Int):Option (List UInt8):=
  bnd1 (m_ref9_Int a0) (λ y1=>bnd1 (zid 21 [y1]) (λ y2=>some y2))
def m_ref16_With_B2 (a1:List (List UInt8)) (y6:(List UInt8)) (k7:(List (List UInt8))->Option (List UInt8)) (d:(List (List UInt8))->Int->Int->Option (List UInt8)) (c:List (List UInt8)) (b:Int) (a:Int):Option (List UInt8):=
  if a<(List.length y6:Int)then(jn (λ(e:List (List UInt8)) (f:Int)=>d e f (i64 (a+1))) (λ k44=>need ((0:Int)≤a/\a<(List.length y6:Int)) (if(gi y6 a)=80 then(need ((0:Int)≤b/\b<(List.length a1:Int)) (need ((0:Int)≤i64 (a+1)/\(i64 (a+1))<(List.length c:Int)) (k44 (List.set c (Int.toNat (i64 (a+1))) (gi a1 b)) (i64 (b+1)))))else(k44 c b))))else(k7 c)
def m_ref16_With_L2 (a1:List (List UInt8)) (y6:(List UInt8)) (k7:(List (List UInt8))->Option (List UInt8)):Nat->(List (List UInt8))->Int->Int->Option (List UInt8)
  |0,_,_,_=>none
  |n+1,a,b,c=>m_ref16_With_B2 a1 y6 k7 (m_ref16_With_L2 a1 y6 k7 n) a b c
def m_ref16_With (a0:List UInt8) (a1:List (List UInt8)):Option (List UInt8):=
  bnd1 (zeo a0) (λ y1=>bnd1 (zev a0) (λ y2=>need (List.length y2≤137438953472) (jn (λ(_:Unit)=>bnd1 (zgo y1) (λ y6=>jn (λ(a:List (List UInt8))=>need (1≤(List.length a:Int)) (bnd1 (zid y1 (List.drop (Int.toNat 1) a)) (λ y52=>some y52))) (λ k7=>m_ref16_With_L2 a1 y6 k7 FU y2 0 0))) (λ k5=>if y1=6 then(none)else(k5 ())))))
def zib (d:(((List ((List UInt8)×Int×Bool×(Int×Int)×(List (Int×Int×Int))))×(List ((List UInt8)×Int×(List Int)×(List (List UInt8))))×(List (Int×Int×Int×Int×(Int×Int)))×(List (List UInt8)))×(List ((List UInt8)×(List UInt8)×(List Int)×Bool))×Int)->Int->(List (List UInt8))->Option ((List UInt8)×(List (List UInt8)))) (a0:((List ((List UInt8)×Int×Bool×(Int×Int)×(List (Int×Int×Int))))×(List ((List UInt8)×Int×(List Int)×(List (List UInt8))))×(List (Int×Int×Int×Int×(Int×Int)))×(List (List UInt8)))×(List ((List UInt8)×(List UInt8)×(List Int)×Bool))×Int) (a1:Int) (k6:(List (List UInt8))->(List (List UInt8))->Option ((List UInt8)×(List (List UInt8)))) (e:(List (List UInt8))->(List (List UInt8))->Int->Option ((List UInt8)×(List (List UInt8)))) (c:List (List UInt8)) (b:List (List UInt8)) (a:Int):Option ((List UInt8)×(List (List UInt8))):=
  if a<(List.length ((gi a0.2.1 a1).2.2.1):Int)then(need ((0:Int)≤a/\a<(List.length ((gi a0.2.1 a1).2.2.1):Int)) (bnd1 (d ((a0.1.1,a0.1.2.1,a0.1.2.2.1,a0.1.2.2.2),a0.2.1,a0.2.2) (gi ((gi a0.2.1 a1).2.2.1) a) c) (λ y34=>need (List.length b+List.length [y34.1]≤137438953472) (e y34.2 (b++[y34.1]) (i64 (a+1))))))else(k6 c b)
def zhx (a:(((List ((List UInt8)×Int×Bool×(Int×Int)×(List (Int×Int×Int))))×(List ((List UInt8)×Int×(List Int)×(List (List UInt8))))×(List (Int×Int×Int×Int×(Int×Int)))×(List (List UInt8)))×(List ((List UInt8)×(List UInt8)×(List Int)×Bool))×Int)->Int->(List (List UInt8))->Option ((List UInt8)×(List (List UInt8)))) (a0:((List ((List UInt8)×Int×Bool×(Int×Int)×(List (Int×Int×Int))))×(List ((List UInt8)×Int×(List Int)×(List (List UInt8))))×(List (Int×Int×Int×Int×(Int×Int)))×(List (List UInt8)))×(List ((List UInt8)×(List UInt8)×(List Int)×Bool))×Int) (a1:Int) (k6:(List (List UInt8))->(List (List UInt8))->Option ((List UInt8)×(List (List UInt8)))):Nat->(List (List UInt8))->(List (List UInt8))->Int->Option ((List UInt8)×(List (List UInt8)))
  |0,_,_,_=>none
  |n+1,b,c,d=>zib a a0 a1 k6 (zhx a a0 a1 k6 n) b c d
def m_ref21_builder_shape_F (a:(((List ((List UInt8)×Int×Bool×(Int×Int)×(List (Int×Int×Int))))×(List ((List UInt8)×Int×(List Int)×(List (List UInt8))))×(List (Int×Int×Int×Int×(Int×Int)))×(List (List UInt8)))×(List ((List UInt8)×(List UInt8)×(List Int)×Bool))×Int)->Int->(List (List UInt8))->Option ((List UInt8)×(List (List UInt8)))) (a0:((List ((List UInt8)×Int×Bool×(Int×Int)×(List (Int×Int×Int))))×(List ((List UInt8)×Int×(List Int)×(List (List UInt8))))×(List (Int×Int×Int×Int×(Int×Int)))×(List (List UInt8)))×(List ((List UInt8)×(List UInt8)×(List Int)×Bool))×Int) (a1:Int) (a2:List (List UInt8)):Option ((List UInt8)×(List (List UInt8))):=
  need ((0:Int)≤a1/\a1<(List.length a0.2.1:Int)) (if !((gi a0.2.1 a1).2.2.2)then(need (List.length a2+List.length [(gi a0.2.1 a1).1]≤137438953472) (bnd1 (m_ref21_Hole (i64 ((List.length (a2++[(gi a0.2.1 a1).1]):Int) - 1))) (λ y5=>some (y5,(a2++[(gi a0.2.1 a1).1])))))else(jn (λ(b:List (List UInt8)) (c:List (List UInt8))=>bnd1 (m_ref16_With ((gi a0.2.1 a1).2.1) c) (λ y38=>some (y38,b))) (λ k6=>zhx a a0 a1 k6 FU a2 [] 0)))
def zgj:Nat->((((List ((List UInt8)×Int×Bool×(Int×Int)×(List (Int×Int×Int))))×(List ((List UInt8)×Int×(List Int)×(List (List UInt8))))×(List (Int×Int×Int×Int×(Int×Int)))×(List (List UInt8)))×(List ((List UInt8)×(List UInt8)×(List Int)×Bool))×Int)->Int->(List (List UInt8))->Option ((List UInt8)×(List (List UInt8))))
  |0=>(λ _ _ _=>none)
  |n+1=>m_ref21_builder_shape_F (zgj n)
def m_ref21_builder_shape (a0:((List ((List UInt8)×Int×Bool×(Int×Int)×(List (Int×Int×Int))))×(List ((List UInt8)×Int×(List Int)×(List (List UInt8))))×(List (Int×Int×Int×Int×(Int×Int)))×(List (List UInt8)))×(List ((List UInt8)×(List UInt8)×(List Int)×Bool))×Int) (a1:Int) (a2:List (List UInt8)):Option ((List UInt8)×(List (List UInt8))):=zgj FU a0 a1 a2
def m_ref18_need (a0:Int):Option Int:=
  jn (λ(a:Bool)=>if a then(none)else(jn (λ(b:Bool)=>if b then(none)else(some 0)) (λ k5=>if a0=7 then(k5 (decide (a0=7)))else(if a0=10 then(k5 (decide (a0=10)))else(if a0=13 then(k5 (decide (a0=13)))else(if a0=16 then(k5 (decide (a0=16)))else(if a0=17 then(k5 (decide (a0=17)))else(k5 (decide (a0=20)))))))))) (λ k4=>if a0=9 then(k4 (decide (a0=9)))else(if a0=11 then(k4 (decide (a0=11)))else(if a0=12 then(k4 (decide (a0=12)))else(if a0=14 then(k4 (decide (a0=14)))else(if a0=15 then(k4 (decide (a0=15)))else(if a0=18 then(k4 (decide (a0=18)))else(k4 (decide (a0=19)))))))))
def m_ref16_Omega  :Option (List UInt8):=
  bnd1 (zid 4 ([]:List (List UInt8))) (λ y1=>some y1)
def m_ref16_Offers_B2 (y2:(List (List UInt8))) (k3:(List (Int×(List UInt8)))->Option (List (Int×(List UInt8)))) (c:(List (Int×(List UInt8)))->Int->Option (List (Int×(List UInt8)))) (b:List (Int×(List UInt8))) (a:Int):Option (List (Int×(List UInt8))):=
  if a<(List.length y2:Int)then(need ((0:Int)≤a/\a<(List.length y2:Int)) (bnd1 (zej (gi y2 a)) (λ y31=>need ((0:Int)≤i64 (a+1)/\(i64 (a+1))<(List.length y2:Int)) (need (List.length b+List.length [(y31,gi y2 (i64 (a+1)))]≤137438953472) (c (b++[(y31,gi y2 (i64 (a+1)))]) (i64 (a+2)))))))else(k3 b)
def m_ref16_Offers_L2 (y2:(List (List UInt8))) (k3:(List (Int×(List UInt8)))->Option (List (Int×(List UInt8)))):Nat->(List (Int×(List UInt8)))->Int->Option (List (Int×(List UInt8)))
  |0,_,_=>none
  |n+1,a,b=>m_ref16_Offers_B2 y2 k3 (m_ref16_Offers_L2 y2 k3 n) a b
def m_ref16_Offers (a0:List UInt8):Option (List (Int×(List UInt8))):=
  bnd1 (zeo a0) (λ y1=>if¬y1=6 then(none)else(bnd1 (zev a0) (λ y2=>jn (λ(a:List (Int×(List UInt8)))=>some a) (λ k3=>m_ref16_Offers_L2 y2 k3 FU [] 1))))
def m_ref18_left (a0:List UInt8) (a1:List UInt8):Option (List UInt8):=
  bnd1 (zdd a0) (λ y1=>need ((0:Int)≤0/\0<(List.length y1:Int)) (bnd1 (m_ref16_With a0 (List.set y1 (Int.toNat 0) a1)) (λ y4=>some y4)))
def m_ref16_Sets_B2 (y1:(List (List UInt8))) (y3:(List UInt8)) (k5:(List Int)->(List Int)->Option ((List Int)×(List Int))) (e:(List Int)->(List Int)->Int->Int->Option ((List Int)×(List Int))) (c:List Int) (d:List Int) (b:Int) (a:Int):Option ((List Int)×(List Int)):=
  if a<(List.length y3:Int)then(jn (λ(f:List Int) (g:List Int) (h:Int)=>e f g h (i64 (a+1))) (λ k66=>need ((0:Int)≤a/\a<(List.length y3:Int)) (if(gi y3 a)=83 then(need ((0:Int)≤i64 (a+1)/\(i64 (a+1))<(List.length y1:Int)) (bnd1 (m_ref16_events (gi y1 (i64 (a+1)))) (λ y73=>need ((0:Int)≤b/\b<2) (k66 (if b=0 then y73.1 else c) (if b=0 then d else y73.1) (i64 (b+1))))))else(k66 c d b))))else(k5 c d)
def m_ref16_Sets_L2 (y1:(List (List UInt8))) (y3:(List UInt8)) (k5:(List Int)->(List Int)->Option ((List Int)×(List Int))):Nat->(List Int)->(List Int)->Int->Int->Option ((List Int)×(List Int))
  |0,_,_,_,_=>none
  |n+1,a,b,c,d=>m_ref16_Sets_B2 y1 y3 k5 (m_ref16_Sets_L2 y1 y3 k5 n) a b c d
def m_ref16_Sets (a0:List UInt8):Option ((List Int)×(List Int)):=
  bnd1 (zev a0) (λ y1=>bnd1 (zeo a0) (λ y2=>bnd1 (zgo y2) (λ y3=>jn (λ(a:List Int) (b:List Int)=>some (a,b)) (λ k5=>m_ref16_Sets_L2 y1 y3 k5 FU ((([],[]):(List Int)×(List Int)).1) ((([],[]):(List Int)×(List Int)).2) 0 0))))
def m_ref16_Has_B2 (a0:List Int) (a1:Int) (k1:Unit->Option Bool) (b:Int->Option Bool) (a:Int):Option Bool:=
  if a<(List.length a0:Int)then(need ((0:Int)≤a/\a<(List.length a0:Int)) (if(gi a0 a)=a1 then(some true)else(b (i64 (a+1)))))else(k1 ())
def m_ref16_Has_L2 (a0:List Int) (a1:Int) (k1:Unit->Option Bool):Nat->Int->Option Bool
  |0,_=>none
  |n+1,a=>m_ref16_Has_B2 a0 a1 k1 (m_ref16_Has_L2 a0 a1 k1 n) a
def m_ref16_Has (a0:List Int) (a1:Int):Option Bool:=
  jn (λ(_:Unit)=>some false) (λ k1=>m_ref16_Has_L2 a0 a1 k1 FU 0)
def m_ref18_alone (a0:List UInt8) (a1:Int) (a2:Bool):Option Bool:=
  bnd1 (m_ref16_Sets a0) (λ y1=>bnd1 (zeo a0) (λ y2=>if y2=16 then(bnd1 (m_ref16_Has y1.1 a1) (λ y3=>some (!y3)))else(if y2=17 then(none)else(none))))
def m_ref18_joint (a0:List UInt8) (a1:Int) (a2:Int):Option Int:=
  bnd1 (m_ref16_Sets a0) (λ y1=>jn (λ(_:Unit)=>some (-1)) (λ k2=>bnd1 (zeo a0) (λ y8=>if y8=16 then(jn (λ(a:Bool)=>if a then(some a1)else(k2 ())) (λ k9=>if a1=a2 then(bnd1 (m_ref16_Has y1.1 a1) (λ y11=>k9 y11))else(k9 false)))else(if y8=17 then(none)else(none)))))
def m_ref18_right (a0:List UInt8) (a1:List UInt8):Option (List UInt8):=
  bnd1 (zdd a0) (λ y1=>need ((0:Int)≤1/\1<(List.length y1:Int)) (bnd1 (m_ref16_With a0 (List.set y1 (Int.toNat 1) a1)) (λ y4=>some y4)))
def m_ref18_parallel_B14 (a0:List UInt8) (a1:List (Int×(List UInt8))) (a2:List (Int×(List UInt8))) (c:Int) (k571:(List (Int×(List UInt8)))->Option (List (Int×(List UInt8)))) (d:(List (Int×(List UInt8)))->Int->Option (List (Int×(List UInt8)))) (b:List (Int×(List UInt8))) (a:Int):Option (List (Int×(List UInt8))):=
  if a<(List.length a2:Int)then(jn (λ(e:List (Int×(List UInt8)))=>d e (i64 (a+1))) (λ k668=>need ((0:Int)≤a/\a<(List.length a2:Int)) (bnd1 (m_ref18_joint a0 ((gi a1 c).1) ((gi a2 a).1)) (λ y676=>if 0≤y676 then(need ((0:Int)≤a/\a<(List.length a2:Int)) (bnd1 (m_ref16_With a0 [(gi a1 c).2,(gi a2 a).2]) (λ y678=>need (List.length b+List.length [(y676,y678)]≤137438953472) (k668 (b++[(y676,y678)])))))else(k668 b)))))else(k571 b)
def m_ref18_parallel_L14 (a0:List UInt8) (a1:List (Int×(List UInt8))) (a2:List (Int×(List UInt8))) (a:Int) (k571:(List (Int×(List UInt8)))->Option (List (Int×(List UInt8)))):Nat->(List (Int×(List UInt8)))->Int->Option (List (Int×(List UInt8)))
  |0,_,_=>none
  |n+1,b,c=>m_ref18_parallel_B14 a0 a1 a2 a k571 (m_ref18_parallel_L14 a0 a1 a2 a k571 n) b c
def m_ref18_parallel_B8 (a0:List UInt8) (a1:List (Int×(List UInt8))) (a2:List (Int×(List UInt8))) (y1:(List UInt8)) (k14:(List (Int×(List UInt8)))->Option (List (Int×(List UInt8)))) (c:(List (Int×(List UInt8)))->Int->Option (List (Int×(List UInt8)))) (b:List (Int×(List UInt8))) (a:Int):Option (List (Int×(List UInt8))):=
  if a<(List.length a1:Int)then(jn (λ(d:List (Int×(List UInt8)))=>c d (i64 (a+1))) (λ k571=>need ((0:Int)≤a/\a<(List.length a1:Int)) (jn (λ(e:List (Int×(List UInt8)))=>m_ref18_parallel_L14 a0 a1 a2 a k571 FU e 0) (λ k629=>if((gi a1 a).1)=1 then(bnd1 (m_ref18_left a0 y1) (λ y636=>need (List.length b+List.length [(0,y636)]≤137438953472) (k629 (b++[(0,y636)]))))else(jn (λ(f:Bool)=>if f then(none)else(k629 b)) (λ k639=>if((gi a1 a).1)=0 then(k639 true)else(bnd1 (m_ref18_alone a0 ((gi a1 a).1) true) (λ y641=>k639 y641))))))))else(k14 b)
def m_ref18_parallel_L8 (a0:List UInt8) (a1:List (Int×(List UInt8))) (a2:List (Int×(List UInt8))) (y1:(List UInt8)) (k14:(List (Int×(List UInt8)))->Option (List (Int×(List UInt8)))):Nat->(List (Int×(List UInt8)))->Int->Option (List (Int×(List UInt8)))
  |0,_,_=>none
  |n+1,a,b=>m_ref18_parallel_B8 a0 a1 a2 y1 k14 (m_ref18_parallel_L8 a0 a1 a2 y1 k14 n) a b
def m_ref18_parallel_B16 (a0:List UInt8) (a2:List (Int×(List UInt8))) (y1:(List UInt8)) (k681:(List (Int×(List UInt8)))->Option (List (Int×(List UInt8)))) (c:(List (Int×(List UInt8)))->Int->Option (List (Int×(List UInt8)))) (b:List (Int×(List UInt8))) (a:Int):Option (List (Int×(List UInt8))):=
  if a<(List.length a2:Int)then(jn (λ(d:List (Int×(List UInt8)))=>c d (i64 (a+1))) (λ k768=>need ((0:Int)≤a/\a<(List.length a2:Int)) (if((gi a2 a).1)=1 then(bnd1 (m_ref18_right a0 y1) (λ y779=>need (List.length b+List.length [(0,y779)]≤137438953472) (k768 (b++[(0,y779)]))))else(jn (λ(e:Bool)=>if e then(none)else(k768 b)) (λ k782=>if((gi a2 a).1)=0 then(k782 true)else(bnd1 (m_ref18_alone a0 ((gi a2 a).1) false) (λ y784=>k782 y784)))))))else(k681 b)
def m_ref18_parallel_L16 (a0:List UInt8) (a2:List (Int×(List UInt8))) (y1:(List UInt8)) (k681:(List (Int×(List UInt8)))->Option (List (Int×(List UInt8)))):Nat->(List (Int×(List UInt8)))->Int->Option (List (Int×(List UInt8)))
  |0,_,_=>none
  |n+1,a,b=>m_ref18_parallel_B16 a0 a2 y1 k681 (m_ref18_parallel_L16 a0 a2 y1 k681 n) a b
def m_ref18_parallel (a0:List UInt8) (a1:List (Int×(List UInt8))) (a2:List (Int×(List UInt8))):Option (List (Int×(List UInt8))):=
  bnd1 (m_ref16_Omega) (λ y1=>bnd1 (zdd a0) (λ y2=>jn (λ(a:Bool)=>if a then(some [(1,y1)])else(jn (λ(b:List (Int×(List UInt8)))=>jn (λ(c:List (Int×(List UInt8)))=>some c) (λ k681=>m_ref18_parallel_L16 a0 a2 y1 k681 FU b 0)) (λ k14=>m_ref18_parallel_L8 a0 a1 a2 y1 k14 FU [] 0))) (λ k9=>need ((0:Int)≤0/\0<(List.length y2:Int)) (if(gi y2 0)=y1 then(need ((0:Int)≤1/\1<(List.length y2:Int)) (k9 (decide ((gi y2 1)=y1))))else(k9 false)))))
def m_ref16_Pairs_B2 (y3:(List UInt8)) (k4:Unit->Option (List (Int×Int))) (a:Unit->Option (List (Int×Int))) (u:Unit):Option (List (Int×Int)):=
  if 0<(List.length y3:Int)then(none)else(k4 ())
def m_ref16_Pairs_L2 (y3:(List UInt8)) (k4:Unit->Option (List (Int×Int))):Nat->Unit->Option (List (Int×Int))
  |0,_=>none
  |n+1,u=>m_ref16_Pairs_B2 y3 k4 (m_ref16_Pairs_L2 y3 k4 n) u
def m_ref16_Pairs (a0:List UInt8):Option (List (Int×Int)):=
  bnd1 (zev a0) (λ y1=>bnd1 (zeo a0) (λ y2=>bnd1 (zgo y2) (λ y3=>jn (λ(_:Unit)=>some []) (λ k4=>m_ref16_Pairs_L2 y3 k4 FU ()))))
def m_ref16_Above_B2 (a0:List (Int×Int)) (k1:Unit->Option (List (Int×Int))) (a:Unit->Option (List (Int×Int))) (u:Unit):Option (List (Int×Int)):=
  if 0<(List.length a0:Int)then(none)else(k1 ())
def m_ref16_Above_L2 (a0:List (Int×Int)) (k1:Unit->Option (List (Int×Int))):Nat->Unit->Option (List (Int×Int))
  |0,_=>none
  |n+1,u=>m_ref16_Above_B2 a0 k1 (m_ref16_Above_L2 a0 k1 n) u
def m_ref16_Above (a0:List (Int×Int)):Option (List (Int×Int)):=
  jn (λ(_:Unit)=>some []) (λ k1=>m_ref16_Above_L2 a0 k1 FU ())
def m_ref16_ValidOrder_B2 (a0:List (Int×Int)) (k1:Unit->Option Bool) (a:Unit->Option Bool) (u:Unit):Option Bool:=
  if 0<(List.length a0:Int)then(none)else(k1 ())
def m_ref16_ValidOrder_L2 (a0:List (Int×Int)) (k1:Unit->Option Bool):Nat->Unit->Option Bool
  |0,_=>none
  |n+1,u=>m_ref16_ValidOrder_B2 a0 k1 (m_ref16_ValidOrder_L2 a0 k1 n) u
def m_ref16_ValidOrder_B4 (a0:List (Int×Int)) (k7:Unit->Option Bool) (a:Unit->Option Bool) (u:Unit):Option Bool:=
  if 0<(List.length a0:Int)then(none)else(k7 ())
def m_ref16_ValidOrder_L4 (a0:List (Int×Int)) (k7:Unit->Option Bool):Nat->Unit->Option Bool
  |0,_=>none
  |n+1,u=>m_ref16_ValidOrder_B4 a0 k7 (m_ref16_ValidOrder_L4 a0 k7 n) u
def m_ref16_ValidOrder (a0:List (Int×Int)):Option Bool:=
  jn (λ(_:Unit)=>jn (λ(_:Unit)=>some true) (λ k7=>m_ref16_ValidOrder_L4 a0 k7 FU ())) (λ k1=>m_ref16_ValidOrder_L2 a0 k1 FU ())
def m_ref16_Keep_B2 (a1:List Int) (k2:Unit->Option (List Int)) (a:Unit->Option (List Int)) (u:Unit):Option (List Int):=
  if 0<(List.length a1:Int)then(none)else(k2 ())
def m_ref16_Keep_L2 (a1:List Int) (k2:Unit->Option (List Int)):Nat->Unit->Option (List Int)
  |0,_=>none
  |n+1,u=>m_ref16_Keep_B2 a1 k2 (m_ref16_Keep_L2 a1 k2 n) u
def m_ref16_Keep (a0:List (Int×Int)) (a1:List Int):Option (List Int):=
  bnd1 (m_ref16_ValidOrder a0) (λ y1=>if !y1 then(none)else(jn (λ(_:Unit)=>some []) (λ k2=>m_ref16_Keep_L2 a1 k2 FU ())))
def m_ref18_unary_B2 (a1:List (Int×(List UInt8))) (k4:Unit->Option (List (Int×(List UInt8)))) (a:Unit->Option (List (Int×(List UInt8)))) (u:Unit):Option (List (Int×(List UInt8))):=
  if 0<(List.length a1:Int)then(none)else(k4 ())
def m_ref18_unary_L2 (a1:List (Int×(List UInt8))) (k4:Unit->Option (List (Int×(List UInt8)))):Nat->Unit->Option (List (Int×(List UInt8)))
  |0,_=>none
  |n+1,u=>m_ref18_unary_B2 a1 k4 (m_ref18_unary_L2 a1 k4 n) u
def m_ref18_unary_B4 (a1:List (Int×(List UInt8))) (k11:Unit->Option (List (Int×(List UInt8)))) (a:Unit->Option (List (Int×(List UInt8)))) (u:Unit):Option (List (Int×(List UInt8))):=
  if 0<(List.length a1:Int)then(none)else(k11 ())
def m_ref18_unary_L4 (a1:List (Int×(List UInt8))) (k11:Unit->Option (List (Int×(List UInt8)))):Nat->Unit->Option (List (Int×(List UInt8)))
  |0,_=>none
  |n+1,u=>m_ref18_unary_B4 a1 k11 (m_ref18_unary_L4 a1 k11 n) u
def m_ref18_unary (a0:List UInt8) (a1:List (Int×(List UInt8))):Option (List (Int×(List UInt8))):=
  bnd1 (zeo a0) (λ y1=>bnd1 (m_ref16_Sets a0) (λ y2=>bnd1 (m_ref16_Pairs a0) (λ y3=>jn (λ(_:Unit)=>bnd1 (m_ref16_Above y3) (λ y6=>bnd1 (m_ref16_Keep y6 ([]:List Int)) (λ y7=>jn (λ(a:Bool)=>jn (λ(_:Unit)=>some []) (λ k11=>m_ref18_unary_L4 a1 k11 FU ())) (λ k8=>if y1=19 then(if 0<(List.length a1:Int)then(need ((0:Int)≤0/\0<(List.length a1:Int)) (k8 (decide (((gi a1 0).1)=0))))else(k8 false))else(k8 false))))) (λ k4=>m_ref18_unary_L2 a1 k4 FU ()))))
def m_ref18_Combine_B4 (y38:(List (Int×(List UInt8)))) (k39:(List (Int×(List UInt8)))->Option (List (Int×(List UInt8)))) (c:(List (Int×(List UInt8)))->Int->Option (List (Int×(List UInt8)))) (b:List (Int×(List UInt8))) (a:Int):Option (List (Int×(List UInt8))):=
  if a<(List.length y38:Int)then(need ((0:Int)≤a/\a<(List.length y38:Int)) (need ((0:Int)≤a/\a<(List.length y38:Int)) (need (List.length b+List.length [((gi y38 a).1,(gi y38 a).2)]≤137438953472) (c (b++[((gi y38 a).1,(gi y38 a).2)]) (i64 (a+1))))))else(k39 b)
def m_ref18_Combine_L4 (y38:(List (Int×(List UInt8)))) (k39:(List (Int×(List UInt8)))->Option (List (Int×(List UInt8)))):Nat->(List (Int×(List UInt8)))->Int->Option (List (Int×(List UInt8)))
  |0,_,_=>none
  |n+1,a,b=>m_ref18_Combine_B4 y38 k39 (m_ref18_Combine_L4 y38 k39 n) a b
def zew (a0:List UInt8) (a1:List (Int×(List UInt8))) (a2:List (Int×(List UInt8))):Option (List (Int×(List UInt8))):=
  bnd1 (zdd a0) (λ y1=>bnd1 (m_ref16_Omega) (λ y2=>jn (λ(_:Unit)=>bnd1 (m_ref18_unary a0 a1) (λ y69=>some y69)) (λ k3=>bnd1 (zeo a0) (λ y37=>if y37=2 then(some [(1,y2)])else(if y37=3 then(none)else(if y37=6 then(bnd1 (m_ref16_Offers a0) (λ y38=>jn (λ(a:List (Int×(List UInt8)))=>some a) (λ k39=>m_ref18_Combine_L4 y38 k39 FU [] 0)))else(if y37=8 then(none)else(jn (λ(b:Bool)=>if b then(none)else(jn (λ(c:Bool)=>if c then(none)else(jn (λ(d:Bool)=>if d then(bnd1 (m_ref18_parallel a0 a1 a2) (λ y68=>some y68))else(k3 ())) (λ k67=>if y37=16 then(k67 (decide (y37=16)))else(if y37=17 then(k67 (decide (y37=17)))else(k67 (decide (y37=20))))))) (λ k66=>if y37=9 then(k66 (decide (y37=9)))else(if y37=10 then(k66 (decide (y37=10)))else(if y37=11 then(k66 (decide (y37=11)))else(k66 (decide (y37=12)))))))) (λ k65=>if y37=7 then(k65 (decide (y37=7)))else(k65 (decide (y37=13))))))))))))
def m_ref18_less (a0:Int×(List UInt8)) (a1:Int×(List UInt8)):Option Bool:=
  none
def m_ref18_Sorted_B26 (a0:List (Int×(List UInt8))) (a:List (Int×(List UInt8))) (b:Int) (k745:Unit->Option (List (Int×(List UInt8)))) (d:Unit->Option (List (Int×(List UInt8)))) (u:Unit):Option (List (Int×(List UInt8))):=
  jn (λ(c:Bool)=>if c then(none)else(k745 ())) (λ k800=>if 0<(List.length a:Int)then(need ((0:Int)≤b/\b<(List.length a0:Int)) (need ((0:Int)≤0/\0<(List.length a:Int)) (bnd1 (m_ref18_less (gi a 0) (gi a0 b)) (λ y806=>k800 y806))))else(k800 false))
def m_ref18_Sorted_L26 (a0:List (Int×(List UInt8))) (a:List (Int×(List UInt8))) (b:Int) (k745:Unit->Option (List (Int×(List UInt8)))):Nat->Unit->Option (List (Int×(List UInt8)))
  |0,_=>none
  |n+1,u=>m_ref18_Sorted_B26 a0 a b k745 (m_ref18_Sorted_L26 a0 a b k745 n) u
def m_ref18_Sorted_B14 (a0:List (Int×(List UInt8))) (k1:(List (Int×(List UInt8)))->Option (List (Int×(List UInt8)))) (c:(List (Int×(List UInt8)))->Int->Option (List (Int×(List UInt8)))) (a:List (Int×(List UInt8))) (b:Int):Option (List (Int×(List UInt8))):=
  if b<(List.length a0:Int)then(jn (λ(d:List (Int×(List UInt8)))=>c d (i64 (b+1))) (λ k664=>jn (λ(_:Unit)=>jn (λ(e:Bool)=>if e then(k664 a)else(need (List.length a+List.length ([((0,[]):Int×(List UInt8))]:List (Int×(List UInt8)))≤137438953472) (need ((0:Int)≤i64 (0+1)/\(i64 (0+1))≤(List.length (a++([((0,[]):Int×(List UInt8))]:List (Int×(List UInt8)))):Int)/\(List.length (a++([((0,[]):Int×(List UInt8))]:List (Int×(List UInt8)))):Int)≤(List.length (a++([((0,[]):Int×(List UInt8))]:List (Int×(List UInt8)))):Int)) (need ((0:Int)≤0/\0≤(List.length (a++([((0,[]):Int×(List UInt8))]:List (Int×(List UInt8)))):Int)/\(List.length (a++([((0,[]):Int×(List UInt8))]:List (Int×(List UInt8)))):Int)≤(List.length (a++([((0,[]):Int×(List UInt8))]:List (Int×(List UInt8)))):Int)) (need ((0:Int)≤b/\b<(List.length a0:Int)) (need ((0:Int)≤0/\0<(List.length (List.take (Int.toNat (i64 (0+1))) (a++([((0,[]):Int×(List UInt8))]:List (Int×(List UInt8))))++List.take (Nat.min (Int.toNat (List.length (a++([((0,[]):Int×(List UInt8))]:List (Int×(List UInt8)))):Int) - Int.toNat 0) (Int.toNat (List.length (a++([((0,[]):Int×(List UInt8))]:List (Int×(List UInt8)))):Int) - Int.toNat (i64 (0+1)))) (List.drop (Int.toNat 0) (a++([((0,[]):Int×(List UInt8))]:List (Int×(List UInt8)))))++List.drop (Int.toNat (i64 (0+1))+(Nat.min (Int.toNat (List.length (a++([((0,[]):Int×(List UInt8))]:List (Int×(List UInt8)))):Int) - Int.toNat 0) (Int.toNat (List.length (a++([((0,[]):Int×(List UInt8))]:List (Int×(List UInt8)))):Int) - Int.toNat (i64 (0+1))))) (a++([((0,[]):Int×(List UInt8))]:List (Int×(List UInt8))))):Int)) (k664 (List.set (List.take (Int.toNat (i64 (0+1))) (a++([((0,[]):Int×(List UInt8))]:List (Int×(List UInt8))))++List.take (Nat.min (Int.toNat (List.length (a++([((0,[]):Int×(List UInt8))]:List (Int×(List UInt8)))):Int) - Int.toNat 0) (Int.toNat (List.length (a++([((0,[]):Int×(List UInt8))]:List (Int×(List UInt8)))):Int) - Int.toNat (i64 (0+1)))) (List.drop (Int.toNat 0) (a++([((0,[]):Int×(List UInt8))]:List (Int×(List UInt8)))))++List.drop (Int.toNat (i64 (0+1))+(Nat.min (Int.toNat (List.length (a++([((0,[]):Int×(List UInt8))]:List (Int×(List UInt8)))):Int) - Int.toNat 0) (Int.toNat (List.length (a++([((0,[]):Int×(List UInt8))]:List (Int×(List UInt8)))):Int) - Int.toNat (i64 (0+1))))) (a++([((0,[]):Int×(List UInt8))]:List (Int×(List UInt8))))) (Int.toNat 0) (gi a0 b))))))))) (λ k813=>if 0<(List.length a:Int)then(need ((0:Int)≤b/\b<(List.length a0:Int)) (need ((0:Int)≤0/\0<(List.length a:Int)) (k813 (decide ((gi a 0)=(gi a0 b))))))else(k813 false))) (λ k745=>m_ref18_Sorted_L26 a0 a b k745 FU ())))else(k1 a)
def m_ref18_Sorted_L14 (a0:List (Int×(List UInt8))) (k1:(List (Int×(List UInt8)))->Option (List (Int×(List UInt8)))):Nat->(List (Int×(List UInt8)))->Int->Option (List (Int×(List UInt8)))
  |0,_,_=>none
  |n+1,a,b=>m_ref18_Sorted_B14 a0 k1 (m_ref18_Sorted_L14 a0 k1 n) a b
def m_ref18_Sorted (a0:List (Int×(List UInt8))):Option (List (Int×(List UInt8))):=
  jn (λ(a:List (Int×(List UInt8)))=>some a) (λ k1=>m_ref18_Sorted_L14 a0 k1 FU [] 0)
def m_ref18_steps_B2 (y9:(List (Int×(List UInt8)))) (k10:Unit->Option ((List (Int×(List UInt8)))×Int)) (b:Int->Option ((List (Int×(List UInt8)))×Int)) (a:Int):Option ((List (Int×(List UInt8)))×Int):=
  if a<(List.length y9:Int)then(need ((0:Int)≤a/\a<(List.length y9:Int)) (if((gi y9 a).2)=([]:List UInt8)then(none)else(b (i64 (a+1)))))else(k10 ())
def m_ref18_steps_L2 (y9:(List (Int×(List UInt8)))) (k10:Unit->Option ((List (Int×(List UInt8)))×Int)):Nat->Int->Option ((List (Int×(List UInt8)))×Int)
  |0,_=>none
  |n+1,a=>m_ref18_steps_B2 y9 k10 (m_ref18_steps_L2 y9 k10 n) a
def m_ref18_steps (a0:(List ((List UInt8)×Int×Bool×(Int×Int)×(List (Int×Int×Int))))×(List ((List UInt8)×Int×(List Int)×(List (List UInt8))))×(List (Int×Int×Int×Int×(Int×Int)))×(List (List UInt8))) (a1:List UInt8) (a2:List (List UInt8)):Option ((List (Int×(List UInt8)))×Int):=
  bnd1 (zeo a1) (λ y1=>if y1=5 then(none)else(bnd1 (zdd a1) (λ y2=>bnd1 (m_ref18_need y1) (λ y5=>if 1≤y5 then(none)else(bnd1 (m_ref18_need y1) (λ y8=>if y8=2 then(none)else(bnd1 (zew a1 ([]:List (Int×(List UInt8))) ([]:List (Int×(List UInt8)))) (λ y9=>jn (λ(_:Unit)=>bnd1 (m_ref18_Sorted y9) (λ y18=>if 1024<(List.length y18:Int)then(none)else(some (y18,0)))) (λ k10=>m_ref18_steps_L2 y9 k10 FU 0)))))))))
def m_ref18_Steps (a0:(List ((List UInt8)×Int×Bool×(Int×Int)×(List (Int×Int×Int))))×(List ((List UInt8)×Int×(List Int)×(List (List UInt8))))×(List (Int×Int×Int×Int×(Int×Int)))×(List (List UInt8))) (a1:List UInt8):Option ((List (Int×(List UInt8)))×Int):=
  bnd1 (zfs a1) (λ y1=>if !y1 then(none)else(bnd1 (m_ref18_steps a0 a1 ([]:List (List UInt8))) (λ y2=>some (y2.1,y2.2))))
def m_ref18_Before (a0:Int×Int) (a1:Int×Int):Option Bool:=
  none
def m_ref18_Arcs_B26 (a0:List (Int×Int)) (a:List (Int×Int)) (b:Int) (k745:Unit->Option (List (Int×Int))) (d:Unit->Option (List (Int×Int))) (u:Unit):Option (List (Int×Int)):=
  jn (λ(c:Bool)=>if c then(none)else(k745 ())) (λ k800=>if 0<(List.length a:Int)then(need ((0:Int)≤b/\b<(List.length a0:Int)) (need ((0:Int)≤0/\0<(List.length a:Int)) (bnd1 (m_ref18_Before (gi a 0) (gi a0 b)) (λ y806=>k800 y806))))else(k800 false))
def m_ref18_Arcs_L26 (a0:List (Int×Int)) (a:List (Int×Int)) (b:Int) (k745:Unit->Option (List (Int×Int))):Nat->Unit->Option (List (Int×Int))
  |0,_=>none
  |n+1,u=>m_ref18_Arcs_B26 a0 a b k745 (m_ref18_Arcs_L26 a0 a b k745 n) u
def m_ref18_Arcs_B14 (a0:List (Int×Int)) (k1:(List (Int×Int))->Option (List (Int×Int))) (c:(List (Int×Int))->Int->Option (List (Int×Int))) (a:List (Int×Int)) (b:Int):Option (List (Int×Int)):=
  if b<(List.length a0:Int)then(jn (λ(d:List (Int×Int))=>c d (i64 (b+1))) (λ k664=>jn (λ(_:Unit)=>jn (λ(e:Bool)=>if e then(k664 a)else(need (List.length a+List.length [(0,0)]≤137438953472) (need ((0:Int)≤i64 (0+1)/\(i64 (0+1))≤(List.length (a++[(0,0)]):Int)/\(List.length (a++[(0,0)]):Int)≤(List.length (a++[(0,0)]):Int)) (need ((0:Int)≤0/\0≤(List.length (a++[(0,0)]):Int)/\(List.length (a++[(0,0)]):Int)≤(List.length (a++[(0,0)]):Int)) (need ((0:Int)≤b/\b<(List.length a0:Int)) (need ((0:Int)≤0/\0<(List.length (List.take (Int.toNat (i64 (0+1))) (a++[(0,0)])++List.take (Nat.min (Int.toNat (List.length (a++[(0,0)]):Int) - Int.toNat 0) (Int.toNat (List.length (a++[(0,0)]):Int) - Int.toNat (i64 (0+1)))) (List.drop (Int.toNat 0) (a++[(0,0)]))++List.drop (Int.toNat (i64 (0+1))+(Nat.min (Int.toNat (List.length (a++[(0,0)]):Int) - Int.toNat 0) (Int.toNat (List.length (a++[(0,0)]):Int) - Int.toNat (i64 (0+1))))) (a++[(0,0)])):Int)) (k664 (List.set (List.take (Int.toNat (i64 (0+1))) (a++[(0,0)])++List.take (Nat.min (Int.toNat (List.length (a++[(0,0)]):Int) - Int.toNat 0) (Int.toNat (List.length (a++[(0,0)]):Int) - Int.toNat (i64 (0+1)))) (List.drop (Int.toNat 0) (a++[(0,0)]))++List.drop (Int.toNat (i64 (0+1))+(Nat.min (Int.toNat (List.length (a++[(0,0)]):Int) - Int.toNat 0) (Int.toNat (List.length (a++[(0,0)]):Int) - Int.toNat (i64 (0+1))))) (a++[(0,0)])) (Int.toNat 0) (gi a0 b))))))))) (λ k813=>if 0<(List.length a:Int)then(need ((0:Int)≤b/\b<(List.length a0:Int)) (need ((0:Int)≤0/\0<(List.length a:Int)) (k813 (decide ((gi a 0)=(gi a0 b))))))else(k813 false))) (λ k745=>m_ref18_Arcs_L26 a0 a b k745 FU ())))else(k1 a)
def m_ref18_Arcs_L14 (a0:List (Int×Int)) (k1:(List (Int×Int))->Option (List (Int×Int))):Nat->(List (Int×Int))->Int->Option (List (Int×Int))
  |0,_,_=>none
  |n+1,a,b=>m_ref18_Arcs_B14 a0 k1 (m_ref18_Arcs_L14 a0 k1 n) a b
def m_ref18_Arcs (a0:List (Int×Int)):Option (List (Int×Int)):=
  jn (λ(a:List (Int×Int))=>some a) (λ k1=>m_ref18_Arcs_L14 a0 k1 FU [] 0)
def m_ref18_Explore_B26 (a2:Int) (y1891:(List (Int×(List UInt8)))×Int) (k1892:(List ((List UInt8)×Int))->(List (List UInt8))->(List (Int×Int))->Option ((List (List (Int×Int)))×(List (List UInt8))×Int×Int)) (f:(List ((List UInt8)×Int))->(List (List UInt8))->(List (Int×Int))->Int->Option ((List (List (Int×Int)))×(List (List UInt8))×Int×Int)) (c:List ((List UInt8)×Int)) (b:List (List UInt8)) (d:List (Int×Int)) (a:Int):Option ((List (List (Int×Int)))×(List (List UInt8))×Int×Int):=
  if a<(List.length y1891.1:Int)then(need ((0:Int)≤a/\a<(List.length y1891.1:Int)) (jn (λ(g:List ((List UInt8)×Int)) (h:List (List UInt8)) (e:Int)=>need ((0:Int)≤a/\a<(List.length y1891.1:Int)) (need (List.length d+List.length [((gi y1891.1 a).1,e)]≤137438953472) (f g h (d++[((gi y1891.1 a).1,e)]) (i64 (a+1))))) (λ k2044=>if !(Option.isSome (lookL c ((gi y1891.1 a).2)))then(if a2≤(List.length b:Int)then(none)else(need ((0:Int)≤a/\a<(List.length y1891.1:Int)) (need ((0:Int)≤a/\a<(List.length y1891.1:Int)) (need (List.length b+List.length [(gi y1891.1 a).2]≤137438953472) (k2044 (putL c ((gi y1891.1 a).2) (List.length b:Int)) (b++[(gi y1891.1 a).2]) (List.length b:Int))))))else(k2044 c b (Option.getD (lookL c ((gi y1891.1 a).2)) 0)))))else(k1892 c b d)
def m_ref18_Explore_L26 (a2:Int) (y1891:(List (Int×(List UInt8)))×Int) (k1892:(List ((List UInt8)×Int))->(List (List UInt8))->(List (Int×Int))->Option ((List (List (Int×Int)))×(List (List UInt8))×Int×Int)):Nat->(List ((List UInt8)×Int))->(List (List UInt8))->(List (Int×Int))->Int->Option ((List (List (Int×Int)))×(List (List UInt8))×Int×Int)
  |0,_,_,_,_=>none
  |n+1,a,b,c,d=>m_ref18_Explore_B26 a2 y1891 k1892 (m_ref18_Explore_L26 a2 y1891 k1892 n) a b c d
def m_ref18_Explore_B14 (a0:(List ((List UInt8)×Int×Bool×(Int×Int)×(List (Int×Int×Int))))×(List ((List UInt8)×Int×(List Int)×(List (List UInt8))))×(List (Int×Int×Int×Int×(Int×Int)))×(List (List UInt8))) (a2:Int) (k12:(List (List UInt8))->(List (List (Int×Int)))->Option ((List (List (Int×Int)))×(List (List UInt8))×Int×Int)) (f:(List ((List UInt8)×Int))->(List (List UInt8))->(List (List (Int×Int)))->Int->Int->Option ((List (List (Int×Int)))×(List (List UInt8))×Int×Int)) (g:List ((List UInt8)×Int)) (a:List (List UInt8)) (c:List (List (Int×Int))) (e:Int) (b:Int):Option ((List (List (Int×Int)))×(List (List UInt8))×Int×Int):=
  if b<(List.length a:Int)then(jn (λ(h:List ((List UInt8)×Int)) (i:List (List UInt8)) (j:List (List (Int×Int))) (k:Int)=>f h i j k (i64 (b+1))) (λ k1719=>need ((0:Int)≤b/\b<(List.length a:Int)) (bnd1 (m_ref18_Steps a0 (gi a b)) (λ y1891=>if¬y1891.2=0 then(none)else(jn (λ(l:List ((List UInt8)×Int)) (m:List (List UInt8)) (d:List (Int×Int))=>if 262144<(i64 (e+(List.length d:Int)))then(none)else(bnd1 (m_ref18_Arcs d) (λ y2056=>need (List.length c+List.length [y2056]≤137438953472) (k1719 l m (c++[y2056]) (i64 (e+(List.length d:Int))))))) (λ k1892=>m_ref18_Explore_L26 a2 y1891 k1892 FU g a [] 0))))))else(k12 a c)
def m_ref18_Explore_L14 (a0:(List ((List UInt8)×Int×Bool×(Int×Int)×(List (Int×Int×Int))))×(List ((List UInt8)×Int×(List Int)×(List (List UInt8))))×(List (Int×Int×Int×Int×(Int×Int)))×(List (List UInt8))) (a2:Int) (k12:(List (List UInt8))->(List (List (Int×Int)))->Option ((List (List (Int×Int)))×(List (List UInt8))×Int×Int)):Nat->(List ((List UInt8)×Int))->(List (List UInt8))->(List (List (Int×Int)))->Int->Int->Option ((List (List (Int×Int)))×(List (List UInt8))×Int×Int)
  |0,_,_,_,_,_=>none
  |n+1,a,b,c,d,e=>m_ref18_Explore_B14 a0 a2 k12 (m_ref18_Explore_L14 a0 a2 k12 n) a b c d e
def m_ref18_Explore (a0:(List ((List UInt8)×Int×Bool×(Int×Int)×(List (Int×Int×Int))))×(List ((List UInt8)×Int×(List Int)×(List (List UInt8))))×(List (Int×Int×Int×Int×(Int×Int)))×(List (List UInt8))) (a1:List UInt8) (a2:Int):Option ((List (List (Int×Int)))×(List (List UInt8))×Int×Int):=
  jn (λ(a:Bool)=>if a then(none)else(jn (λ(b:List (List UInt8)) (c:List (List (Int×Int)))=>some (c,b,0,0)) (λ k12=>m_ref18_Explore_L14 a0 a2 k12 FU (putL ([]:List ((List UInt8)×Int)) a1 0) [a1] [] 0 0))) (λ k6=>if a2<1 then(k6 true)else(if 16384<a2 then(k6 true)else(bnd1 (zfs a1) (λ y8=>k6 (!y8)))))
def m_ref21_performed_B14 (a0:(List (List (Int×Int)))) (a:Int) (k139:(List Bool)->Option (List Int)) (d:(List Bool)->Int->Option (List Int)) (c:List Bool) (b:Int):Option (List Int):=
  need ((0:Int)≤a/\a<(List.length a0:Int)) (if b<(List.length (gi a0 a):Int)then(need ((0:Int)≤a/\a<(List.length a0:Int)) (need ((0:Int)≤b/\b<(List.length (gi a0 a):Int)) (need ((0:Int)≤(gi (gi a0 a) b).1/\((gi (gi a0 a) b).1)<1026/\((gi (gi a0 a) b).1)<(List.length c:Int)) (d (List.set c (Int.toNat ((gi (gi a0 a) b).1)) true) (i64 (b+1))))))else(k139 c))
def m_ref21_performed_L14 (a0:(List (List (Int×Int)))) (a:Int) (k139:(List Bool)->Option (List Int)):Nat->(List Bool)->Int->Option (List Int)
  |0,_,_=>none
  |n+1,b,c=>m_ref21_performed_B14 a0 a k139 (m_ref21_performed_L14 a0 a k139 n) b c
def m_ref21_performed_B8 (a0:(List (List (Int×Int)))) (k2:(List Bool)->Option (List Int)) (c:(List Bool)->Int->Option (List Int)) (b:List Bool) (a:Int):Option (List Int):=
  if a<(List.length a0:Int)then(jn (λ(d:List Bool)=>c d (i64 (a+1))) (λ k139=>m_ref21_performed_L14 a0 a k139 FU b 0))else(k2 b)
def m_ref21_performed_L8 (a0:(List (List (Int×Int)))) (k2:(List Bool)->Option (List Int)):Nat->(List Bool)->Int->Option (List Int)
  |0,_,_=>none
  |n+1,a,b=>m_ref21_performed_B8 a0 k2 (m_ref21_performed_L8 a0 k2 n) a b
def m_ref21_performed_B16 (c:List Bool) (k165:(List Int)->Option (List Int)) (d:(List Int)->Int->Option (List Int)) (b:List Int) (a:Int):Option (List Int):=
  if a<1026 then(jn (λ(e:List Int)=>d e (i64 (a+1))) (λ k202=>need ((0:Int)≤a/\a<1026/\a<(List.length c:Int)) (if gi c a then(need (List.length b+List.length [a]≤137438953472) (k202 (b++[a])))else(k202 b))))else(k165 b)
def m_ref21_performed_L16 (a:List Bool) (k165:(List Int)->Option (List Int)):Nat->(List Int)->Int->Option (List Int)
  |0,_,_=>none
  |n+1,b,c=>m_ref21_performed_B16 a k165 (m_ref21_performed_L16 a k165 n) b c
def m_ref21_performed (a0:(List (List (Int×Int)))):Option (List Int):=
  jn (λ(a:List Bool)=>jn (λ(b:List Int)=>some b) (λ k165=>m_ref21_performed_L16 a k165 FU [] 0)) (λ k2=>m_ref21_performed_L8 a0 k2 FU (List.replicate 1026 (false:Bool)) 0)
def m_ref21_shaped_B2 (c:(List UInt8)->(List Bool)->Option (Bool×(List Bool))) (y14:(List (List UInt8))) (k15:(List Bool)->Option (Bool×(List Bool))) (d:(List Bool)->Int->Option (Bool×(List Bool))) (b:List Bool) (a:Int):Option (Bool×(List Bool)):=
  if a<(List.length y14:Int)then(need ((0:Int)≤a/\a<(List.length y14:Int)) (bnd1 (c (gi y14 a) b) (λ y28=>if !y28.1 then(none)else(d y28.2 (i64 (a+1))))))else(k15 b)
def m_ref21_shaped_L2 (a:(List UInt8)->(List Bool)->Option (Bool×(List Bool))) (y14:(List (List UInt8))) (k15:(List Bool)->Option (Bool×(List Bool))):Nat->(List Bool)->Int->Option (Bool×(List Bool))
  |0,_,_=>none
  |n+1,b,c=>m_ref21_shaped_B2 a y14 k15 (m_ref21_shaped_L2 a y14 k15 n) b c
def m_ref21_shaped_F (a:(List UInt8)->(List Bool)->Option (Bool×(List Bool))) (a0:List UInt8) (a1:List Bool):Option (Bool×(List Bool)):=
  bnd1 (zeo a0) (λ y1=>if y1=4 then(some (true,a1))else(if y1=21 then(bnd1 (zev a0) (λ y2=>need ((0:Int)≤1/\1<(List.length y2:Int)) (bnd1 (zej (gi y2 1)) (λ y4=>jn (λ(b:Bool)=>if b then(none)else(need ((0:Int)≤y4/\y4<(List.length a1:Int)) (some (true,(List.set a1 (Int.toNat y4) true))))) (λ k9=>if(List.length a1:Int)≤y4 then(k9 true)else(need ((0:Int)≤y4/\y4<(List.length a1:Int)) (k9 (gi a1 y4))))))))else(bnd1 (zfh y1) (λ y13=>if !y13 then(none)else(bnd1 (zdd a0) (λ y14=>jn (λ(c:List Bool)=>some (true,c)) (λ k15=>m_ref21_shaped_L2 a y14 k15 FU a1 0)))))))
def m_ref21_shaped_S:Nat->((List UInt8)->(List Bool)->Option (Bool×(List Bool)))
  |0=>(λ _ _=>none)
  |n+1=>m_ref21_shaped_F (m_ref21_shaped_S n)
def m_ref21_shaped (a0:List UInt8) (a1:List Bool):Option (Bool×(List Bool)):=m_ref21_shaped_S FU a0 a1
def m_ref18_Event (a0:Int):Option Bool:=
  jn (λ(a:Bool)=>some a) (λ k1=>if a0=0 then(k1 true)else(if a0=1 then(k1 true)else(bnd1 (zgu a0) (λ y3=>k1 y3))))
def m_ref21_listed_B2 (a0:List Int) (k1:Unit->Option Bool) (b:Int->Option Bool) (a:Int):Option Bool:=
  if a<(List.length a0:Int)then(jn (λ(c:Bool)=>if c then(none)else(b (i64 (a+1)))) (λ k108=>need ((0:Int)≤a/\a<(List.length a0:Int)) (bnd1 (m_ref18_Event (gi a0 a)) (λ y114=>if !y114 then(k108 true)else(if 0<a then(need ((0:Int)≤a/\a<(List.length a0:Int)) (need ((0:Int)≤i64 (a - 1)/\(i64 (a - 1))<(List.length a0:Int)) (k108 (decide ((gi a0 a)≤(gi a0 (i64 (a - 1))))))))else(k108 false))))))else(k1 ())
def m_ref21_listed_L2 (a0:List Int) (k1:Unit->Option Bool):Nat->Int->Option Bool
  |0,_=>none
  |n+1,a=>m_ref21_listed_B2 a0 k1 (m_ref21_listed_L2 a0 k1 n) a
def m_ref21_listed (a0:List Int):Option Bool:=
  jn (λ(_:Unit)=>some true) (λ k1=>m_ref21_listed_L2 a0 k1 FU 0)
def m_ref21_among_B2 (a0:List (Int×(List UInt8))) (a1:Int×(List UInt8)) (k1:Unit->Option Bool) (b:Int->Option Bool) (a:Int):Option Bool:=
  if a<(List.length a0:Int)then(need ((0:Int)≤a/\a<(List.length a0:Int)) (if(gi a0 a)=a1 then(some true)else(b (i64 (a+1)))))else(k1 ())
def m_ref21_among_L2 (a0:List (Int×(List UInt8))) (a1:Int×(List UInt8)) (k1:Unit->Option Bool):Nat->Int->Option Bool
  |0,_=>none
  |n+1,a=>m_ref21_among_B2 a0 a1 k1 (m_ref21_among_L2 a0 a1 k1 n) a
def m_ref21_among (a0:List (Int×(List UInt8))) (a1:Int×(List UInt8)):Option Bool:=
  jn (λ(_:Unit)=>some false) (λ k1=>m_ref21_among_L2 a0 a1 k1 FU 0)
def m_ref21_single_B14 (y1:(List (Int×(List UInt8)))) (e:List ((List Int)×Int×(List UInt8))) (c:Int) (k530:(List ((List Int)×Int×(List UInt8)))->Option (List ((List Int)×Int×(List UInt8)))) (b:List (Int×(List UInt8))) (f:(List ((List Int)×Int×(List UInt8)))->Int->Option (List ((List Int)×Int×(List UInt8)))) (d:List ((List Int)×Int×(List UInt8))) (a:Int):Option (List ((List Int)×Int×(List UInt8))):=
  if a<(List.length b:Int)then(jn (λ(g:List ((List Int)×Int×(List UInt8)))=>f g (i64 (a+1))) (λ k619=>need ((0:Int)≤a/\a<(List.length b:Int)) (bnd1 (m_ref21_among y1 (gi b a)) (λ y628=>if !y628 then(need ((0:Int)≤c/\c<(List.length e:Int)) (need ((0:Int)≤a/\a<(List.length b:Int)) (need ((0:Int)≤a/\a<(List.length b:Int)) (need (List.length d+List.length [((gi e c).1,(gi b a).1,(gi b a).2)]≤137438953472) (k619 (d++[((gi e c).1,(gi b a).1,(gi b a).2)]))))))else(k619 d)))))else(k530 d)
def m_ref21_single_L14 (y1:(List (Int×(List UInt8)))) (a:List ((List Int)×Int×(List UInt8))) (b:Int) (k530:(List ((List Int)×Int×(List UInt8)))->Option (List ((List Int)×Int×(List UInt8)))) (c:List (Int×(List UInt8))):Nat->(List ((List Int)×Int×(List UInt8)))->Int->Option (List ((List Int)×Int×(List UInt8)))
  |0,_,_=>none
  |n+1,d,e=>m_ref21_single_B14 y1 a b k530 c (m_ref21_single_L14 y1 a b k530 c n) d e
def m_ref21_single_B8 (a0:List UInt8) (a3:Bool) (y1:(List (Int×(List UInt8)))) (b:List ((List Int)×Int×(List UInt8))) (k3:(List ((List Int)×Int×(List UInt8)))->Option (List ((List Int)×Int×(List UInt8)))) (d:(List ((List Int)×Int×(List UInt8)))->Int->Option (List ((List Int)×Int×(List UInt8)))) (c:List ((List Int)×Int×(List UInt8))) (a:Int):Option (List ((List Int)×Int×(List UInt8))):=
  if a<(List.length b:Int)then(jn (λ(e:List ((List Int)×Int×(List UInt8)))=>d e (i64 (a+1))) (λ k530=>need ((0:Int)≤a/\a<(List.length b:Int)) (need ((0:Int)≤a/\a<(List.length b:Int)) (bnd1 (zew a0 [((gi b a).2.1,(gi b a).2.2)] ([]:List (Int×(List UInt8)))) (λ y585=>jn (λ(f:List (Int×(List UInt8)))=>m_ref21_single_L14 y1 b a k530 f FU c 0) (λ k586=>if !a3 then(bnd1 (zew a0 ([]:List (Int×(List UInt8))) [((gi b a).2.1,(gi b a).2.2)]) (λ y588=>k586 y588))else(k586 y585)))))))else(k3 c)
def m_ref21_single_L8 (a0:List UInt8) (a3:Bool) (y1:(List (Int×(List UInt8)))) (a:List ((List Int)×Int×(List UInt8))) (k3:(List ((List Int)×Int×(List UInt8)))->Option (List ((List Int)×Int×(List UInt8)))):Nat->(List ((List Int)×Int×(List UInt8)))->Int->Option (List ((List Int)×Int×(List UInt8)))
  |0,_,_=>none
  |n+1,b,c=>m_ref21_single_B8 a0 a3 y1 a k3 (m_ref21_single_L8 a0 a3 y1 a k3 n) b c
def m_ref21_single (a0:List UInt8) (a1:List ((List Int)×Int×(List UInt8))) (a2:List ((List Int)×Int×(List UInt8))) (a3:Bool):Option (List ((List Int)×Int×(List UInt8))):=
  bnd1 (zew a0 ([]:List (Int×(List UInt8))) ([]:List (Int×(List UInt8)))) (λ y1=>jn (λ(a:List ((List Int)×Int×(List UInt8)))=>jn (λ(b:List ((List Int)×Int×(List UInt8)))=>some b) (λ k3=>m_ref21_single_L8 a0 a3 y1 a k3 FU [] 0)) (λ k2=>if !a3 then(k2 a2)else(k2 a1)))
def m_ref21_both_B26 (a3:(List Int)×Int×(List UInt8)) (k560:(List Int)->Option (List ((List Int)×Int×(List UInt8)))) (c:(List Int)->Int->Option (List ((List Int)×Int×(List UInt8)))) (b:List Int) (a:Int):Option (List ((List Int)×Int×(List UInt8))):=
  if a<(List.length b:Int)then(need ((0:Int)≤a/\a<(List.length a3.1:Int)) (need ((0:Int)≤a/\a<(List.length b:Int)) (need ((0:Int)≤a/\a<(List.length b:Int)) (c (List.set b (Int.toNat a) (max (gi b a) (gi a3.1 a))) (i64 (a+1))))))else(k560 b)
def m_ref21_both_L26 (a3:(List Int)×Int×(List UInt8)) (k560:(List Int)->Option (List ((List Int)×Int×(List UInt8)))):Nat->(List Int)->Int->Option (List ((List Int)×Int×(List UInt8)))
  |0,_,_=>none
  |n+1,a,b=>m_ref21_both_B26 a3 k560 (m_ref21_both_L26 a3 k560 n) a b
def m_ref21_both_B14 (a1:List (Int×(List UInt8))) (a2:(List Int)×Int×(List UInt8)) (a3:(List Int)×Int×(List UInt8)) (y1:(List (Int×(List UInt8)))) (y2:(List (Int×(List UInt8)))) (k3:(List ((List Int)×Int×(List UInt8)))->Option (List ((List Int)×Int×(List UInt8)))) (d:(List ((List Int)×Int×(List UInt8)))->Int->Option (List ((List Int)×Int×(List UInt8)))) (b:List ((List Int)×Int×(List UInt8))) (a:Int):Option (List ((List Int)×Int×(List UInt8))):=
  if a<(List.length a1:Int)then(jn (λ(e:List ((List Int)×Int×(List UInt8)))=>d e (i64 (a+1))) (λ k490=>jn (λ(f:Bool)=>if f then(k490 b)else(need (List.length a2.1≤137438953472) (jn (λ(c:List Int)=>need ((0:Int)≤a/\a<(List.length a1:Int)) (need ((0:Int)≤a/\a<(List.length a1:Int)) (need (List.length b+List.length [(c,(gi a1 a).1,(gi a1 a).2)]≤137438953472) (k490 (b++[(c,(gi a1 a).1,(gi a1 a).2)]))))) (λ k560=>m_ref21_both_L26 a3 k560 FU a2.1 0)))) (λ k549=>need ((0:Int)≤a/\a<(List.length a1:Int)) (bnd1 (m_ref21_among y1 (gi a1 a)) (λ y555=>if y555 then(k549 true)else(need ((0:Int)≤a/\a<(List.length a1:Int)) (bnd1 (m_ref21_among y2 (gi a1 a)) (λ y557=>k549 y557))))))))else(k3 b)
def m_ref21_both_L14 (a1:List (Int×(List UInt8))) (a2:(List Int)×Int×(List UInt8)) (a3:(List Int)×Int×(List UInt8)) (y1:(List (Int×(List UInt8)))) (y2:(List (Int×(List UInt8)))) (k3:(List ((List Int)×Int×(List UInt8)))->Option (List ((List Int)×Int×(List UInt8)))):Nat->(List ((List Int)×Int×(List UInt8)))->Int->Option (List ((List Int)×Int×(List UInt8)))
  |0,_,_=>none
  |n+1,a,b=>m_ref21_both_B14 a1 a2 a3 y1 y2 k3 (m_ref21_both_L14 a1 a2 a3 y1 y2 k3 n) a b
def m_ref21_both (a0:List UInt8) (a1:List (Int×(List UInt8))) (a2:(List Int)×Int×(List UInt8)) (a3:(List Int)×Int×(List UInt8)):Option (List ((List Int)×Int×(List UInt8))):=
  bnd1 (zew a0 [(a2.2.1,a2.2.2)] ([]:List (Int×(List UInt8)))) (λ y1=>bnd1 (zew a0 ([]:List (Int×(List UInt8))) [(a3.2.1,a3.2.2)]) (λ y2=>jn (λ(a:List ((List Int)×Int×(List UInt8)))=>some a) (λ k3=>m_ref21_both_L14 a1 a2 a3 y1 y2 k3 FU [] 0)))
def m_ref21_turns_B2 (k4:(List Int)->Option (List ((List Int)×Int×(List UInt8)))) (c:(List Int)->Int->Option (List ((List Int)×Int×(List UInt8)))) (b:List Int) (a:Int):Option (List ((List Int)×Int×(List UInt8))):=
  if a<(List.length b:Int)then(need ((0:Int)≤a/\a<(List.length b:Int)) (c (List.set b (Int.toNat a) (-1)) (i64 (a+1))))else(k4 b)
def m_ref21_turns_L2 (k4:(List Int)->Option (List ((List Int)×Int×(List UInt8)))):Nat->(List Int)->Int->Option (List ((List Int)×Int×(List UInt8)))
  |0,_,_=>none
  |n+1,a,b=>m_ref21_turns_B2 k4 (m_ref21_turns_L2 k4 n) a b
def m_ref21_turns_B6 (a0:List UInt8) (a1:List (List Int)) (y173:Int) (k174:(List ((List Int)×Int×(List UInt8)))->Option (List ((List Int)×Int×(List UInt8)))) (e:(List Int)->(List ((List Int)×Int×(List UInt8)))->Int->Option (List ((List Int)×Int×(List UInt8)))) (b:List Int) (c:List ((List Int)×Int×(List UInt8))) (a:Int):Option (List ((List Int)×Int×(List UInt8))):=
  need ((0:Int)≤y173/\y173<(List.length a1:Int)) (if a<(List.length (gi a1 y173):Int)then(need ((0:Int)≤y173/\y173<(List.length a1:Int)) (need ((0:Int)≤a/\a<(List.length (gi a1 y173):Int)) (need (List.length b≤137438953472) (need ((0:Int)≤y173/\y173<(List.length b:Int)) (jn (λ(d:List UInt8)=>need (List.length c+List.length [((List.set b (Int.toNat y173) (gi (gi a1 y173) a)),gi (gi a1 y173) a,d)]≤137438953472) (e b (c++[((List.set b (Int.toNat y173) (gi (gi a1 y173) a)),gi (gi a1 y173) a,d)]) (i64 (a+1)))) (λ k323=>if(gi (gi a1 y173) a)=1 then(bnd1 (m_ref16_Omega) (λ y325=>k323 y325))else(k323 a0)))))))else(k174 c))
def m_ref21_turns_L6 (a0:List UInt8) (a1:List (List Int)) (y173:Int) (k174:(List ((List Int)×Int×(List UInt8)))->Option (List ((List Int)×Int×(List UInt8)))):Nat->(List Int)->(List ((List Int)×Int×(List UInt8)))->Int->Option (List ((List Int)×Int×(List UInt8)))
  |0,_,_,_=>none
  |n+1,a,b,c=>m_ref21_turns_B6 a0 a1 y173 k174 (m_ref21_turns_L6 a0 a1 y173 k174 n) a b c
def m_ref21_turns_B20 (a0:List UInt8) (y330:(List ((List Int)×Int×(List UInt8)))) (c:List ((List Int)×Int×(List UInt8))) (b:Int) (k666:(List ((List Int)×Int×(List UInt8)))->Option (List ((List Int)×Int×(List UInt8)))) (e:(List ((List Int)×Int×(List UInt8)))->Int->Option (List ((List Int)×Int×(List UInt8)))) (d:List ((List Int)×Int×(List UInt8))) (a:Int):Option (List ((List Int)×Int×(List UInt8))):=
  if a<(List.length c:Int)then(need ((0:Int)≤b/\b<(List.length y330:Int)) (need ((0:Int)≤b/\b<(List.length y330:Int)) (need ((0:Int)≤a/\a<(List.length c:Int)) (need ((0:Int)≤a/\a<(List.length c:Int)) (bnd1 (zew a0 [((gi y330 b).2.1,(gi y330 b).2.2)] [((gi c a).2.1,(gi c a).2.2)]) (λ y722=>need ((0:Int)≤b/\b<(List.length y330:Int)) (need ((0:Int)≤a/\a<(List.length c:Int)) (bnd1 (m_ref21_both a0 y722 (gi y330 b) (gi c a)) (λ y725=>need (List.length d+List.length y725≤137438953472) (e (d++y725) (i64 (a+1))))))))))))else(k666 d)
def m_ref21_turns_L20 (a0:List UInt8) (y330:(List ((List Int)×Int×(List UInt8)))) (a:List ((List Int)×Int×(List UInt8))) (b:Int) (k666:(List ((List Int)×Int×(List UInt8)))->Option (List ((List Int)×Int×(List UInt8)))):Nat->(List ((List Int)×Int×(List UInt8)))->Int->Option (List ((List Int)×Int×(List UInt8)))
  |0,_,_=>none
  |n+1,c,d=>m_ref21_turns_B20 a0 y330 a b k666 (m_ref21_turns_L20 a0 y330 a b k666 n) c d
def m_ref21_turns_B14 (a0:List UInt8) (y330:(List ((List Int)×Int×(List UInt8)))) (c:List ((List Int)×Int×(List UInt8))) (k349:(List ((List Int)×Int×(List UInt8)))->Option (List ((List Int)×Int×(List UInt8)))) (d:(List ((List Int)×Int×(List UInt8)))->Int->Option (List ((List Int)×Int×(List UInt8)))) (b:List ((List Int)×Int×(List UInt8))) (a:Int):Option (List ((List Int)×Int×(List UInt8))):=
  if a<(List.length y330:Int)then(jn (λ(e:List ((List Int)×Int×(List UInt8)))=>d e (i64 (a+1))) (λ k666=>m_ref21_turns_L20 a0 y330 c a k666 FU b 0))else(k349 b)
def m_ref21_turns_L14 (a0:List UInt8) (y330:(List ((List Int)×Int×(List UInt8)))) (a:List ((List Int)×Int×(List UInt8))) (k349:(List ((List Int)×Int×(List UInt8)))->Option (List ((List Int)×Int×(List UInt8)))):Nat->(List ((List Int)×Int×(List UInt8)))->Int->Option (List ((List Int)×Int×(List UInt8)))
  |0,_,_=>none
  |n+1,b,c=>m_ref21_turns_B14 a0 y330 a k349 (m_ref21_turns_L14 a0 y330 a k349 n) b c
def m_ref21_turns_B22 (k728:(List ((List Int)×Int×(List UInt8)))->Option (List ((List Int)×Int×(List UInt8)))) (y745:(List (Int×(List UInt8)))) (d:(List Int)->(List ((List Int)×Int×(List UInt8)))->Int->Option (List ((List Int)×Int×(List UInt8)))) (b:List Int) (c:List ((List Int)×Int×(List UInt8))) (a:Int):Option (List ((List Int)×Int×(List UInt8))):=
  if a<(List.length y745:Int)then(need ((0:Int)≤a/\a<(List.length y745:Int)) (need ((0:Int)≤a/\a<(List.length y745:Int)) (need (List.length c+List.length [(b,(gi y745 a).1,(gi y745 a).2)]≤137438953472) (d b (c++[(b,(gi y745 a).1,(gi y745 a).2)]) (i64 (a+1))))))else(k728 c)
def m_ref21_turns_L22 (k728:(List ((List Int)×Int×(List UInt8)))->Option (List ((List Int)×Int×(List UInt8)))) (y745:(List (Int×(List UInt8)))):Nat->(List Int)->(List ((List Int)×Int×(List UInt8)))->Int->Option (List ((List Int)×Int×(List UInt8)))
  |0,_,_,_=>none
  |n+1,a,b,c=>m_ref21_turns_B22 k728 y745 (m_ref21_turns_L22 k728 y745 n) a b c
def m_ref21_turns_F (a:(List UInt8)->(List (List Int))->Option (List ((List Int)×Int×(List UInt8)))) (a0:List UInt8) (a1:List (List Int)):Option (List ((List Int)×Int×(List UInt8))):=
  bnd1 (zeo a0) (λ y1=>need ((0:Int)≤(List.length a1:Int)/\((List.length a1:Int):Int)≤137438953472) (jn (λ(b:List Int)=>jn (λ(_:Unit)=>bnd1 (zdd a0) (λ y328=>if(List.length y328:Int)=0 then(some [])else(need ((0:Int)≤0/\0<(List.length y328:Int)) (bnd1 (a (gi y328 0) a1) (λ y330=>jn (λ(c:List ((List Int)×Int×(List UInt8)))=>jn (λ(e:Bool)=>if e then(none)else(bnd1 (m_ref21_single a0 y330 ([]:List ((List Int)×Int×(List UInt8))) true) (λ y343=>need (List.length y343≤137438953472) (bnd1 (m_ref21_single a0 ([]:List ((List Int)×Int×(List UInt8))) c false) (λ y346=>need (List.length y343+List.length y346≤137438953472) (jn (λ(d:List ((List Int)×Int×(List UInt8)))=>jn (λ(f:List ((List Int)×Int×(List UInt8)))=>some f) (λ k728=>bnd1 (zew a0 ([]:List (Int×(List UInt8))) ([]:List (Int×(List UInt8)))) (λ y745=>if 0<(List.length y745:Int)then(m_ref21_turns_L22 k728 y745 FU b d 0)else(k728 d)))) (λ k349=>m_ref21_turns_L14 a0 y330 c k349 FU (y343++y346) 0))))))) (λ k340=>if 1<(List.length y328:Int)then(if¬y1=7 then(if¬y1=10 then(if¬y1=13 then(bnd1 (zfk y1) (λ y342=>k340 (!y342)))else(k340 false))else(k340 false))else(k340 false))else(k340 false))) (λ k331=>if 1<(List.length y328:Int)then(need ((0:Int)≤1/\1<(List.length y328:Int)) (bnd1 (a (gi y328 1) a1) (λ y335=>k331 y335)))else(k331 []))))))) (λ k12=>if y1=21 then(bnd1 (zev a0) (λ y171=>need ((0:Int)≤1/\1<(List.length y171:Int)) (bnd1 (zej (gi y171 1)) (λ y173=>jn (λ(g:List ((List Int)×Int×(List UInt8)))=>some g) (λ k174=>m_ref21_turns_L6 a0 a1 y173 k174 FU b [] 0)))))else(k12 ()))) (λ k4=>m_ref21_turns_L2 k4 FU (List.replicate (Int.toNat (List.length a1:Int)) (0:Int)) 0)))
def m_ref21_turns_S:Nat->((List UInt8)->(List (List Int))->Option (List ((List Int)×Int×(List UInt8))))
  |0=>(λ _ _=>none)
  |n+1=>m_ref21_turns_F (m_ref21_turns_S n)
def m_ref21_turns (a0:List UInt8) (a1:List (List Int)):Option (List ((List Int)×Int×(List UInt8))):=m_ref21_turns_S FU a0 a1
def m_ref21_order_B2 (a0:(List Int)×Int×(List UInt8)) (a1:(List Int)×Int×(List UInt8)) (k1:Unit->Option Int) (b:Int->Option Int) (a:Int):Option Int:=
  if a<(List.length a0.1:Int)then(need ((0:Int)≤a/\a<(List.length a0.1:Int)) (need ((0:Int)≤a/\a<(List.length a1.1:Int)) (if¬(gi a0.1 a)=(gi a1.1 a)then(need ((0:Int)≤a/\a<(List.length a0.1:Int)) (need ((0:Int)≤a/\a<(List.length a1.1:Int)) (some (i64 ((gi a0.1 a) - (gi a1.1 a))))))else(b (i64 (a+1))))))else(k1 ())
def m_ref21_order_L2 (a0:(List Int)×Int×(List UInt8)) (a1:(List Int)×Int×(List UInt8)) (k1:Unit->Option Int):Nat->Int->Option Int
  |0,_=>none
  |n+1,a=>m_ref21_order_B2 a0 a1 k1 (m_ref21_order_L2 a0 a1 k1 n) a
def m_ref21_order (a0:(List Int)×Int×(List UInt8)) (a1:(List Int)×Int×(List UInt8)):Option Int:=
  jn (λ(_:Unit)=>none) (λ k1=>m_ref21_order_L2 a0 a1 k1 FU 0)
def m_ref21_sorted_B26 (a0:List ((List Int)×Int×(List UInt8))) (b:List ((List Int)×Int×(List UInt8))) (c:Int) (k983:Int->Option (List ((List Int)×Int×(List UInt8)))) (d:Int->Option (List ((List Int)×Int×(List UInt8)))) (a:Int):Option (List ((List Int)×Int×(List UInt8))):=
  jn (λ(e:Bool)=>if e then(d (i64 (a+1)))else(k983 a)) (λ k1068=>if a<(List.length b:Int)then(need ((0:Int)≤c/\c<(List.length a0:Int)) (need ((0:Int)≤a/\a<(List.length b:Int)) (bnd1 (m_ref21_order (gi b a) (gi a0 c)) (λ y1074=>k1068 (decide (y1074<0))))))else(k1068 false))
def m_ref21_sorted_L26 (a0:List ((List Int)×Int×(List UInt8))) (a:List ((List Int)×Int×(List UInt8))) (b:Int) (k983:Int->Option (List ((List Int)×Int×(List UInt8)))):Nat->Int->Option (List ((List Int)×Int×(List UInt8)))
  |0,_=>none
  |n+1,c=>m_ref21_sorted_B26 a0 a b k983 (m_ref21_sorted_L26 a0 a b k983 n) c
def m_ref21_sorted_B14 (a0:List ((List Int)×Int×(List UInt8))) (k1:(List ((List Int)×Int×(List UInt8)))->Option (List ((List Int)×Int×(List UInt8)))) (d:(List ((List Int)×Int×(List UInt8)))->Int->Option (List ((List Int)×Int×(List UInt8)))) (a:List ((List Int)×Int×(List UInt8))) (c:Int):Option (List ((List Int)×Int×(List UInt8))):=
  if c<(List.length a0:Int)then(jn (λ(e:List ((List Int)×Int×(List UInt8)))=>d e (i64 (c+1))) (λ k868=>jn (λ(b:Int)=>jn (λ(f:Bool)=>if f then(k868 a)else(need (List.length a+List.length ([(([],0,[]):(List Int)×Int×(List UInt8))]:List ((List Int)×Int×(List UInt8)))≤137438953472) (need ((0:Int)≤i64 (b+1)/\(i64 (b+1))≤(List.length (a++([(([],0,[]):(List Int)×Int×(List UInt8))]:List ((List Int)×Int×(List UInt8)))):Int)/\(List.length (a++([(([],0,[]):(List Int)×Int×(List UInt8))]:List ((List Int)×Int×(List UInt8)))):Int)≤(List.length (a++([(([],0,[]):(List Int)×Int×(List UInt8))]:List ((List Int)×Int×(List UInt8)))):Int)) (need ((0:Int)≤b/\b≤(List.length (a++([(([],0,[]):(List Int)×Int×(List UInt8))]:List ((List Int)×Int×(List UInt8)))):Int)/\(List.length (a++([(([],0,[]):(List Int)×Int×(List UInt8))]:List ((List Int)×Int×(List UInt8)))):Int)≤(List.length (a++([(([],0,[]):(List Int)×Int×(List UInt8))]:List ((List Int)×Int×(List UInt8)))):Int)) (need ((0:Int)≤c/\c<(List.length a0:Int)) (need ((0:Int)≤b/\b<(List.length (List.take (Int.toNat (i64 (b+1))) (a++([(([],0,[]):(List Int)×Int×(List UInt8))]:List ((List Int)×Int×(List UInt8))))++List.take (Nat.min (Int.toNat (List.length (a++([(([],0,[]):(List Int)×Int×(List UInt8))]:List ((List Int)×Int×(List UInt8)))):Int) - Int.toNat b) (Int.toNat (List.length (a++([(([],0,[]):(List Int)×Int×(List UInt8))]:List ((List Int)×Int×(List UInt8)))):Int) - Int.toNat (i64 (b+1)))) (List.drop (Int.toNat b) (a++([(([],0,[]):(List Int)×Int×(List UInt8))]:List ((List Int)×Int×(List UInt8)))))++List.drop (Int.toNat (i64 (b+1))+(Nat.min (Int.toNat (List.length (a++([(([],0,[]):(List Int)×Int×(List UInt8))]:List ((List Int)×Int×(List UInt8)))):Int) - Int.toNat b) (Int.toNat (List.length (a++([(([],0,[]):(List Int)×Int×(List UInt8))]:List ((List Int)×Int×(List UInt8)))):Int) - Int.toNat (i64 (b+1))))) (a++([(([],0,[]):(List Int)×Int×(List UInt8))]:List ((List Int)×Int×(List UInt8))))):Int)) (k868 (List.set (List.take (Int.toNat (i64 (b+1))) (a++([(([],0,[]):(List Int)×Int×(List UInt8))]:List ((List Int)×Int×(List UInt8))))++List.take (Nat.min (Int.toNat (List.length (a++([(([],0,[]):(List Int)×Int×(List UInt8))]:List ((List Int)×Int×(List UInt8)))):Int) - Int.toNat b) (Int.toNat (List.length (a++([(([],0,[]):(List Int)×Int×(List UInt8))]:List ((List Int)×Int×(List UInt8)))):Int) - Int.toNat (i64 (b+1)))) (List.drop (Int.toNat b) (a++([(([],0,[]):(List Int)×Int×(List UInt8))]:List ((List Int)×Int×(List UInt8)))))++List.drop (Int.toNat (i64 (b+1))+(Nat.min (Int.toNat (List.length (a++([(([],0,[]):(List Int)×Int×(List UInt8))]:List ((List Int)×Int×(List UInt8)))):Int) - Int.toNat b) (Int.toNat (List.length (a++([(([],0,[]):(List Int)×Int×(List UInt8))]:List ((List Int)×Int×(List UInt8)))):Int) - Int.toNat (i64 (b+1))))) (a++([(([],0,[]):(List Int)×Int×(List UInt8))]:List ((List Int)×Int×(List UInt8))))) (Int.toNat b) (gi a0 c))))))))) (λ k1083=>if b<(List.length a:Int)then(need ((0:Int)≤c/\c<(List.length a0:Int)) (need ((0:Int)≤b/\b<(List.length a:Int)) (bnd1 (m_ref21_order (gi a b) (gi a0 c)) (λ y1089=>k1083 (decide (y1089=0))))))else(k1083 false))) (λ k983=>m_ref21_sorted_L26 a0 a c k983 FU 0)))else(k1 a)
def m_ref21_sorted_L14 (a0:List ((List Int)×Int×(List UInt8))) (k1:(List ((List Int)×Int×(List UInt8)))->Option (List ((List Int)×Int×(List UInt8)))):Nat->(List ((List Int)×Int×(List UInt8)))->Int->Option (List ((List Int)×Int×(List UInt8)))
  |0,_,_=>none
  |n+1,a,b=>m_ref21_sorted_B14 a0 k1 (m_ref21_sorted_L14 a0 k1 n) a b
def m_ref21_sorted (a0:List ((List Int)×Int×(List UInt8))):Option (List ((List Int)×Int×(List UInt8))):=
  jn (λ(a:List ((List Int)×Int×(List UInt8)))=>some a) (λ k1=>m_ref21_sorted_L14 a0 k1 FU [] 0)
def m_ref21_Rules_B2 (a1:List (List Int)) (k20:Unit->Option ((List ((List Int)×Int×Int))×(List (List UInt8))×Int)) (b:Int->Option ((List ((List Int)×Int×Int))×(List (List UInt8))×Int)) (a:Int):Option ((List ((List Int)×Int×Int))×(List (List UInt8))×Int):=
  if a<(List.length a1:Int)then(need ((0:Int)≤a/\a<(List.length a1:Int)) (bnd1 (m_ref21_listed (gi a1 a)) (λ y33=>if !y33 then(none)else(b (i64 (a+1))))))else(k20 ())
def m_ref21_Rules_L2 (a1:List (List Int)) (k20:Unit->Option ((List ((List Int)×Int×Int))×(List (List UInt8))×Int)):Nat->Int->Option ((List ((List Int)×Int×Int))×(List (List UInt8))×Int)
  |0,_=>none
  |n+1,a=>m_ref21_Rules_B2 a1 k20 (m_ref21_Rules_L2 a1 k20 n) a
def m_ref21_Rules_B4 (y35:(List ((List Int)×Int×(List UInt8)))) (k36:(List ((List Int)×Int×Int))->(List (List UInt8))->Option ((List ((List Int)×Int×Int))×(List (List UInt8))×Int)) (d:(List ((List Int)×Int×Int))->(List (List UInt8))->Int->Option ((List ((List Int)×Int×Int))×(List (List UInt8))×Int)) (b:List ((List Int)×Int×Int)) (c:List (List UInt8)) (a:Int):Option ((List ((List Int)×Int×Int))×(List (List UInt8))×Int):=
  if a<(List.length y35:Int)then(need ((0:Int)≤a/\a<(List.length y35:Int)) (need ((0:Int)≤a/\a<(List.length y35:Int)) (need (List.length ((gi y35 a).1)≤137438953472) (need (List.length b+List.length [((gi y35 a).1,(gi y35 a).2.1,0)]≤137438953472) (need ((0:Int)≤a/\a<(List.length y35:Int)) (need (List.length c+List.length [(gi y35 a).2.2]≤137438953472) (d (b++[((gi y35 a).1,(gi y35 a).2.1,0)]) (c++[(gi y35 a).2.2]) (i64 (a+1)))))))))else(k36 b c)
def m_ref21_Rules_L4 (y35:(List ((List Int)×Int×(List UInt8)))) (k36:(List ((List Int)×Int×Int))->(List (List UInt8))->Option ((List ((List Int)×Int×Int))×(List (List UInt8))×Int)):Nat->(List ((List Int)×Int×Int))->(List (List UInt8))->Int->Option ((List ((List Int)×Int×Int))×(List (List UInt8))×Int)
  |0,_,_,_=>none
  |n+1,a,b,c=>m_ref21_Rules_B4 y35 k36 (m_ref21_Rules_L4 y35 k36 n) a b c
def m_ref21_Rules (a0:List UInt8) (a1:List (List Int)):Option ((List ((List Int)×Int×Int))×(List (List UInt8))×Int):=
  jn (λ(a:Bool)=>if a then(none)else(jn (λ(_:Unit)=>bnd1 (m_ref21_turns a0 a1) (λ y34=>bnd1 (m_ref21_sorted y34) (λ y35=>jn (λ(b:List ((List Int)×Int×Int)) (c:List (List UInt8))=>some (b,c,0)) (λ k36=>m_ref21_Rules_L4 y35 k36 FU [] [] 0)))) (λ k20=>m_ref21_Rules_L2 a1 k20 FU 0))) (λ k11=>bnd1 (zfs a0) (λ y16=>if !y16 then(k11 true)else(need ((0:Int)≤(List.length a1:Int)/\((List.length a1:Int):Int)≤137438953472) (bnd1 (m_ref21_shaped a0 (List.replicate (Int.toNat (List.length a1:Int)) (false:Bool))) (λ y19=>k11 (!y19.1))))))
def m_ref16_marks_B1 (c:(List UInt8)->(List Bool)->Option (List Bool)) (y12:(List (List UInt8))) (d:(List Bool)->Int->Option (List Bool)) (b:List Bool) (a:Int):Option (List Bool):=
  if a<(List.length y12:Int)then(need ((0:Int)≤a/\a<(List.length y12:Int)) (bnd1 (c (gi y12 a) b) (λ y18=>d y18 (i64 (a+1)))))else(some b)
def m_ref16_marks_L1 (a:(List UInt8)->(List Bool)->Option (List Bool)) (y12:(List (List UInt8))):Nat->(List Bool)->Int->Option (List Bool)
  |0,_,_=>none
  |n+1,b,c=>m_ref16_marks_B1 a y12 (m_ref16_marks_L1 a y12 n) b c
def m_ref16_marks_F (a:(List UInt8)->(List Bool)->Option (List Bool)) (a0:List UInt8) (a1:List Bool):Option (List Bool):=
  jn (λ(b:List Bool)=>bnd1 (zdd a0) (λ y12=>m_ref16_marks_L1 a y12 FU b 0)) (λ k1=>bnd1 (zeo a0) (λ y7=>if y7=21 then(bnd1 (zev a0) (λ y8=>need ((0:Int)≤1/\1<(List.length y8:Int)) (bnd1 (zej (gi y8 1)) (λ y10=>need ((0:Int)≤y10/\y10<12/\y10<(List.length a1:Int)) (k1 (List.set a1 (Int.toNat y10) true))))))else(k1 a1)))
def m_ref16_marks_S:Nat->((List UInt8)->(List Bool)->Option (List Bool))
  |0=>(λ _ _=>none)
  |n+1=>m_ref16_marks_F (m_ref16_marks_S n)
def m_ref16_marks (a0:List UInt8) (a1:List Bool):Option (List Bool):=m_ref16_marks_S FU a0 a1
def m_ref16_Holes_B2 (y2:(List Bool)) (k3:(List Int)->Option (List Int)) (c:(List Int)->Int->Option (List Int)) (b:List Int) (a:Int):Option (List Int):=
  if a<12 then(jn (λ(d:List Int)=>c d (i64 (a+1))) (λ k40=>need ((0:Int)≤a/\a<12/\a<(List.length y2:Int)) (if gi y2 a then(need (List.length b+List.length [a]≤137438953472) (k40 (b++[a])))else(k40 b))))else(k3 b)
def m_ref16_Holes_L2 (y2:(List Bool)) (k3:(List Int)->Option (List Int)):Nat->(List Int)->Int->Option (List Int)
  |0,_,_=>none
  |n+1,a,b=>m_ref16_Holes_B2 y2 k3 (m_ref16_Holes_L2 y2 k3 n) a b
def m_ref16_Holes (a0:List UInt8):Option (List Int):=
  bnd1 (m_ref16_marks a0 (List.replicate 12 (false:Bool))) (λ y2=>jn (λ(a:List Int)=>some a) (λ k3=>m_ref16_Holes_L2 y2 k3 FU [] 0))
def m_ref21_alive_B2 (y3:(List Int)) (k4:(List Bool)->Option (List Bool)) (c:(List Bool)->Int->Option (List Bool)) (b:List Bool) (a:Int):Option (List Bool):=
  if a<(List.length y3:Int)then(need ((0:Int)≤a/\a<(List.length y3:Int)) (need ((0:Int)≤gi y3 a/\(gi y3 a)<(List.length b:Int)) (c (List.set b (Int.toNat (gi y3 a)) true) (i64 (a+1)))))else(k4 b)
def m_ref21_alive_L2 (y3:(List Int)) (k4:(List Bool)->Option (List Bool)):Nat->(List Bool)->Int->Option (List Bool)
  |0,_,_=>none
  |n+1,a,b=>m_ref21_alive_B2 y3 k4 (m_ref21_alive_L2 y3 k4 n) a b
def m_ref21_alive (a0:List UInt8) (a1:Int):Option (List Bool):=
  need ((0:Int)≤a1/\(a1:Int)≤137438953472) (bnd1 (m_ref16_Holes a0) (λ y3=>jn (λ(a:List Bool)=>some a) (λ k4=>m_ref21_alive_L2 y3 k4 FU (List.replicate (Int.toNat a1) (false:Bool)) 0)))
def m_ref21_ruleOrder_B2 (a0:(List Int)×Int×Int) (a1:(List Int)×Int×Int) (k1:Unit->Option Int) (b:Int->Option Int) (a:Int):Option Int:=
  jn (λ(c:Bool)=>if c then(need ((0:Int)≤a/\a<(List.length a0.1:Int)) (need ((0:Int)≤a/\a<(List.length a1.1:Int)) (if¬(gi a0.1 a)=(gi a1.1 a)then(need ((0:Int)≤a/\a<(List.length a0.1:Int)) (need ((0:Int)≤a/\a<(List.length a1.1:Int)) (some (i64 ((gi a0.1 a) - (gi a1.1 a))))))else(b (i64 (a+1))))))else(k1 ())) (λ k40=>if a<(List.length a0.1:Int)then(k40 (decide (a<(List.length a1.1:Int))))else(k40 false))
def m_ref21_ruleOrder_L2 (a0:(List Int)×Int×Int) (a1:(List Int)×Int×Int) (k1:Unit->Option Int):Nat->Int->Option Int
  |0,_=>none
  |n+1,a=>m_ref21_ruleOrder_B2 a0 a1 k1 (m_ref21_ruleOrder_L2 a0 a1 k1 n) a
def m_ref21_ruleOrder (a0:(List Int)×Int×Int) (a1:(List Int)×Int×Int):Option Int:=
  jn (λ(_:Unit)=>none) (λ k1=>m_ref21_ruleOrder_L2 a0 a1 k1 FU 0)
def m_ref21_ascending_B26 (a0:List ((List Int)×Int×Int)) (b:List ((List Int)×Int×Int)) (c:Int) (k983:Int->Option (List ((List Int)×Int×Int))) (d:Int->Option (List ((List Int)×Int×Int))) (a:Int):Option (List ((List Int)×Int×Int)):=
  jn (λ(e:Bool)=>if e then(d (i64 (a+1)))else(k983 a)) (λ k1068=>if a<(List.length b:Int)then(need ((0:Int)≤c/\c<(List.length a0:Int)) (need ((0:Int)≤a/\a<(List.length b:Int)) (bnd1 (m_ref21_ruleOrder (gi b a) (gi a0 c)) (λ y1074=>k1068 (decide (y1074<0))))))else(k1068 false))
def m_ref21_ascending_L26 (a0:List ((List Int)×Int×Int)) (a:List ((List Int)×Int×Int)) (b:Int) (k983:Int->Option (List ((List Int)×Int×Int))):Nat->Int->Option (List ((List Int)×Int×Int))
  |0,_=>none
  |n+1,c=>m_ref21_ascending_B26 a0 a b k983 (m_ref21_ascending_L26 a0 a b k983 n) c
def m_ref21_ascending_B14 (a0:List ((List Int)×Int×Int)) (k1:(List ((List Int)×Int×Int))->Option (List ((List Int)×Int×Int))) (d:(List ((List Int)×Int×Int))->Int->Option (List ((List Int)×Int×Int))) (a:List ((List Int)×Int×Int)) (c:Int):Option (List ((List Int)×Int×Int)):=
  if c<(List.length a0:Int)then(jn (λ(e:List ((List Int)×Int×Int))=>d e (i64 (c+1))) (λ k868=>jn (λ(b:Int)=>jn (λ(f:Bool)=>if f then(k868 a)else(need (List.length a+List.length ([(([],0,0):(List Int)×Int×Int)])≤137438953472) (need ((0:Int)≤i64 (b+1)/\(i64 (b+1))≤(List.length (a++([(([],0,0):(List Int)×Int×Int)])):Int)/\(List.length (a++([(([],0,0):(List Int)×Int×Int)])):Int)≤(List.length (a++([(([],0,0):(List Int)×Int×Int)])):Int)) (need ((0:Int)≤b/\b≤(List.length (a++([(([],0,0):(List Int)×Int×Int)])):Int)/\(List.length (a++([(([],0,0):(List Int)×Int×Int)])):Int)≤(List.length (a++([(([],0,0):(List Int)×Int×Int)])):Int)) (need ((0:Int)≤c/\c<(List.length a0:Int)) (need ((0:Int)≤b/\b<(List.length (List.take (Int.toNat (i64 (b+1))) (a++([(([],0,0):(List Int)×Int×Int)]))++List.take (Nat.min (Int.toNat (List.length (a++([(([],0,0):(List Int)×Int×Int)])):Int) - Int.toNat b) (Int.toNat (List.length (a++([(([],0,0):(List Int)×Int×Int)])):Int) - Int.toNat (i64 (b+1)))) (List.drop (Int.toNat b) (a++([(([],0,0):(List Int)×Int×Int)])))++List.drop (Int.toNat (i64 (b+1))+(Nat.min (Int.toNat (List.length (a++([(([],0,0):(List Int)×Int×Int)])):Int) - Int.toNat b) (Int.toNat (List.length (a++([(([],0,0):(List Int)×Int×Int)])):Int) - Int.toNat (i64 (b+1))))) (a++([(([],0,0):(List Int)×Int×Int)]))):Int)) (k868 (List.set (List.take (Int.toNat (i64 (b+1))) (a++([(([],0,0):(List Int)×Int×Int)]))++List.take (Nat.min (Int.toNat (List.length (a++([(([],0,0):(List Int)×Int×Int)])):Int) - Int.toNat b) (Int.toNat (List.length (a++([(([],0,0):(List Int)×Int×Int)])):Int) - Int.toNat (i64 (b+1)))) (List.drop (Int.toNat b) (a++([(([],0,0):(List Int)×Int×Int)])))++List.drop (Int.toNat (i64 (b+1))+(Nat.min (Int.toNat (List.length (a++([(([],0,0):(List Int)×Int×Int)])):Int) - Int.toNat b) (Int.toNat (List.length (a++([(([],0,0):(List Int)×Int×Int)])):Int) - Int.toNat (i64 (b+1))))) (a++([(([],0,0):(List Int)×Int×Int)]))) (Int.toNat b) (gi a0 c))))))))) (λ k1083=>if b<(List.length a:Int)then(need ((0:Int)≤c/\c<(List.length a0:Int)) (need ((0:Int)≤b/\b<(List.length a:Int)) (bnd1 (m_ref21_ruleOrder (gi a b) (gi a0 c)) (λ y1089=>k1083 (decide (y1089=0))))))else(k1083 false))) (λ k983=>m_ref21_ascending_L26 a0 a c k983 FU 0)))else(k1 a)
def m_ref21_ascending_L14 (a0:List ((List Int)×Int×Int)) (k1:(List ((List Int)×Int×Int))->Option (List ((List Int)×Int×Int))):Nat->(List ((List Int)×Int×Int))->Int->Option (List ((List Int)×Int×Int))
  |0,_,_=>none
  |n+1,a,b=>m_ref21_ascending_B14 a0 k1 (m_ref21_ascending_L14 a0 k1 n) a b
def m_ref21_ascending (a0:List ((List Int)×Int×Int)):Option (List ((List Int)×Int×Int)):=
  jn (λ(a:List ((List Int)×Int×Int))=>some a) (λ k1=>m_ref21_ascending_L14 a0 k1 FU [] 0)
def m_ref21_Compile_B2 (y20:Int×(((List ((List UInt8)×Int×Bool×(Int×Int)×(List (Int×Int×Int))))×(List ((List UInt8)×Int×(List Int)×(List (List UInt8))))×(List (Int×Int×Int×Int×(Int×Int)))×(List (List UInt8)))×(List ((List UInt8)×(List UInt8)×(List Int)×Bool))×Int)) (k23:Int->Option (((List ((List (List (Int×Int)))×(List (List UInt8))))×(List ((List UInt8)×(List Bool)×(List ((List Int)×Int×Int)))))×Int)) (c:Int->Int->Option (((List ((List (List (Int×Int)))×(List (List UInt8))))×(List ((List UInt8)×(List Bool)×(List ((List Int)×Int×Int)))))×Int)) (b:Int) (a:Int):Option (((List ((List (List (Int×Int)))×(List (List UInt8))))×(List ((List UInt8)×(List Bool)×(List ((List Int)×Int×Int)))))×Int):=
  if a<(List.length y20.2.2.1:Int)then(jn (λ(d:Int)=>c d (i64 (a+1))) (λ k70=>need ((0:Int)≤a/\a<(List.length y20.2.2.1:Int)) (if !((gi y20.2.2.1 a).2.2.2)then(bnd1 (m_ref21_builder_under ((y20.2.1.1,y20.2.1.2.1,y20.2.1.2.2.1,y20.2.1.2.2.2),y20.2.2.1,y20.2.2.2) a) (λ y76=>bnd1 (m_ref21_b2i y76) (λ y77=>k70 (i64 (b+y77)))))else(bnd1 (m_ref21_b2i false) (λ y78=>k70 (i64 (b+y78)))))))else(k23 b)
def m_ref21_Compile_L2 (y20:Int×(((List ((List UInt8)×Int×Bool×(Int×Int)×(List (Int×Int×Int))))×(List ((List UInt8)×Int×(List Int)×(List (List UInt8))))×(List (Int×Int×Int×Int×(Int×Int)))×(List (List UInt8)))×(List ((List UInt8)×(List UInt8)×(List Int)×Bool))×Int)) (k23:Int->Option (((List ((List (List (Int×Int)))×(List (List UInt8))))×(List ((List UInt8)×(List Bool)×(List ((List Int)×Int×Int)))))×Int)):Nat->Int->Int->Option (((List ((List (List (Int×Int)))×(List (List UInt8))))×(List ((List UInt8)×(List Bool)×(List ((List Int)×Int×Int)))))×Int)
  |0,_,_=>none
  |n+1,a,b=>m_ref21_Compile_B2 y20 k23 (m_ref21_Compile_L2 y20 k23 n) a b
def m_ref21_Compile_B4 (a0:(List ((List UInt8)×Int×Bool×(Int×Int)×(List (Int×Int×Int))))×(List ((List UInt8)×Int×(List Int)×(List (List UInt8))))×(List (Int×Int×Int×Int×(Int×Int)))×(List (List UInt8))) (a2:Int) (y80:(List UInt8)×(List (List UInt8))) (k83:(List ((List (List (Int×Int)))×(List (List UInt8))))->(List (List Int))->Option (((List ((List (List (Int×Int)))×(List (List UInt8))))×(List ((List UInt8)×(List Bool)×(List ((List Int)×Int×Int)))))×Int)) (d:(List ((List (List (Int×Int)))×(List (List UInt8))))->(List (List Int))->Int->Option (((List ((List (List (Int×Int)))×(List (List UInt8))))×(List ((List UInt8)×(List Bool)×(List ((List Int)×Int×Int)))))×Int)) (b:List ((List (List (Int×Int)))×(List (List UInt8)))) (c:List (List Int)) (a:Int):Option (((List ((List (List (Int×Int)))×(List (List UInt8))))×(List ((List UInt8)×(List Bool)×(List ((List Int)×Int×Int)))))×Int):=
  if a<(List.length y80.2:Int)then(need ((0:Int)≤a/\a<(List.length y80.2:Int)) (bnd1 (m_ref18_Explore a0 (gi y80.2 a) a2) (λ y126=>if¬y126.2.2.2=0 then(none)else(need (List.length b+List.length [(y126.1,y126.2.1)]≤137438953472) (bnd1 (m_ref21_performed y126.1) (λ y130=>need (List.length c+List.length [y130]≤137438953472) (d (b++[(y126.1,y126.2.1)]) (c++[y130]) (i64 (a+1)))))))))else(k83 b c)
def m_ref21_Compile_L4 (a0:(List ((List UInt8)×Int×Bool×(Int×Int)×(List (Int×Int×Int))))×(List ((List UInt8)×Int×(List Int)×(List (List UInt8))))×(List (Int×Int×Int×Int×(Int×Int)))×(List (List UInt8))) (a2:Int) (y80:(List UInt8)×(List (List UInt8))) (k83:(List ((List (List (Int×Int)))×(List (List UInt8))))->(List (List Int))->Option (((List ((List (List (Int×Int)))×(List (List UInt8))))×(List ((List UInt8)×(List Bool)×(List ((List Int)×Int×Int)))))×Int)):Nat->(List ((List (List (Int×Int)))×(List (List UInt8))))->(List (List Int))->Int->Option (((List ((List (List (Int×Int)))×(List (List UInt8))))×(List ((List UInt8)×(List Bool)×(List ((List Int)×Int×Int)))))×Int)
  |0,_,_,_=>none
  |n+1,a,b,c=>m_ref21_Compile_B4 a0 a2 y80 k83 (m_ref21_Compile_L4 a0 a2 y80 k83 n) a b c
def m_ref21_Compile_B318 (y10582:(List ((List Int)×Int×Int))×(List (List UInt8))×Int) (b:List (List UInt8)) (c:Int) (k11440:Int->Option (((List ((List (List (Int×Int)))×(List (List UInt8))))×(List ((List UInt8)×(List Bool)×(List ((List Int)×Int×Int)))))×Int)) (d:Int->Option (((List ((List (List (Int×Int)))×(List (List UInt8))))×(List ((List UInt8)×(List Bool)×(List ((List Int)×Int×Int)))))×Int)) (a:Int):Option (((List ((List (List (Int×Int)))×(List (List UInt8))))×(List ((List UInt8)×(List Bool)×(List ((List Int)×Int×Int)))))×Int):=
  jn (λ(e:Bool)=>if e then(d (i64 (a+1)))else(k11440 a)) (λ k11503=>if a<(List.length b:Int)then(need ((0:Int)≤a/\a<(List.length b:Int)) (need ((0:Int)≤c/\c<(List.length y10582.2.1:Int)) (k11503 (decide (¬(gi b a)=(gi y10582.2.1 c))))))else(k11503 false))
def m_ref21_Compile_L318 (y10582:(List ((List Int)×Int×Int))×(List (List UInt8))×Int) (a:List (List UInt8)) (b:Int) (k11440:Int->Option (((List ((List (List (Int×Int)))×(List (List UInt8))))×(List ((List UInt8)×(List Bool)×(List ((List Int)×Int×Int)))))×Int)):Nat->Int->Option (((List ((List (List (Int×Int)))×(List (List UInt8))))×(List ((List UInt8)×(List Bool)×(List ((List Int)×Int×Int)))))×Int)
  |0,_=>none
  |n+1,c=>m_ref21_Compile_B318 y10582 a b k11440 (m_ref21_Compile_L318 y10582 a b k11440 n) c
def m_ref21_Compile_B306 (y10582:(List ((List Int)×Int×Int))×(List (List UInt8))×Int) (k10585:(List (List UInt8))->(List ((List Int)×Int×Int))->Option (((List ((List (List (Int×Int)))×(List (List UInt8))))×(List ((List UInt8)×(List Bool)×(List ((List Int)×Int×Int)))))×Int)) (e:(List (List UInt8))->(List ((List Int)×Int×Int))->Int->Option (((List ((List (List (Int×Int)))×(List (List UInt8))))×(List ((List UInt8)×(List Bool)×(List ((List Int)×Int×Int)))))×Int)) (b:List (List UInt8)) (c:List ((List Int)×Int×Int)) (a:Int):Option (((List ((List (List (Int×Int)))×(List (List UInt8))))×(List ((List UInt8)×(List Bool)×(List ((List Int)×Int×Int)))))×Int):=
  if a<(List.length c:Int)then(jn (λ(f:List (List UInt8)) (g:List ((List Int)×Int×Int))=>e f g (i64 (a+1))) (λ k11362=>jn (λ(d:Int)=>jn (λ(h:List (List UInt8))=>need ((0:Int)≤a/\a<(List.length c:Int)) (k11362 h (List.set c (Int.toNat a) ((gi c a).1,(gi c a).2.1,d)))) (λ k11508=>if d=(List.length b:Int)then(need ((0:Int)≤a/\a<(List.length y10582.2.1:Int)) (need (List.length b+List.length [gi y10582.2.1 a]≤137438953472) (k11508 (b++[gi y10582.2.1 a]))))else(k11508 b))) (λ k11440=>m_ref21_Compile_L318 y10582 b a k11440 FU 0)))else(k10585 b c)
def m_ref21_Compile_L306 (y10582:(List ((List Int)×Int×Int))×(List (List UInt8))×Int) (k10585:(List (List UInt8))->(List ((List Int)×Int×Int))->Option (((List ((List (List (Int×Int)))×(List (List UInt8))))×(List ((List UInt8)×(List Bool)×(List ((List Int)×Int×Int)))))×Int)):Nat->(List (List UInt8))->(List ((List Int)×Int×Int))->Int->Option (((List ((List (List (Int×Int)))×(List (List UInt8))))×(List ((List UInt8)×(List Bool)×(List ((List Int)×Int×Int)))))×Int)
  |0,_,_,_=>none
  |n+1,a,b,c=>m_ref21_Compile_B306 y10582 k10585 (m_ref21_Compile_L306 y10582 k10585 n) a b c
def m_ref21_Compile_B162 (y80:(List UInt8)×(List (List UInt8))) (k134:(List ((List UInt8)×(List Bool)×(List ((List Int)×Int×Int))))->Option (((List ((List (List (Int×Int)))×(List (List UInt8))))×(List ((List UInt8)×(List Bool)×(List ((List Int)×Int×Int)))))×Int)) (g:(List ((List UInt8)×(List Bool)×(List ((List Int)×Int×Int))))->(List (List Int))->(List (List UInt8))->Int->Int->Option (((List ((List (List (Int×Int)))×(List (List UInt8))))×(List ((List UInt8)×(List Bool)×(List ((List Int)×Int×Int)))))×Int)) (d:List ((List UInt8)×(List Bool)×(List ((List Int)×Int×Int)))) (e:List (List Int)) (c:List (List UInt8)) (f:Int) (a:Int):Option (((List ((List (List (Int×Int)))×(List (List UInt8))))×(List ((List UInt8)×(List Bool)×(List ((List Int)×Int×Int)))))×Int):=
  if a<(List.length c:Int)then(jn (λ(h:List ((List UInt8)×(List Bool)×(List ((List Int)×Int×Int)))) (i:List (List UInt8)) (j:Int)=>g h e i j (i64 (a+1))) (λ k9631=>need ((0:Int)≤a/\a<(List.length c:Int)) (bnd1 (m_ref21_Rules (gi c a) e) (λ y10582=>jn (λ(b:List (List UInt8)) (k:List ((List Int)×Int×Int))=>jn (λ(l:Bool)=>if l then(none)else(need ((0:Int)≤a/\a<(List.length b:Int)) (need ((0:Int)≤a/\a<(List.length b:Int)) (bnd1 (m_ref21_alive (gi b a) (List.length y80.2:Int)) (λ y11524=>bnd1 (m_ref21_ascending k) (λ y11525=>need (List.length d+List.length [(gi b a,y11524,y11525)]≤137438953472) (k9631 (d++[(gi b a,y11524,y11525)]) b (i64 (f+(List.length y10582.1:Int)))))))))) (λ k11518=>if 16384<(i64 (f+(List.length y10582.1:Int)))then(k11518 true)else(k11518 (decide (64<(List.length b:Int)))))) (λ k10585=>m_ref21_Compile_L306 y10582 k10585 FU c y10582.1 0)))))else(k134 d)
def m_ref21_Compile_L162 (y80:(List UInt8)×(List (List UInt8))) (k134:(List ((List UInt8)×(List Bool)×(List ((List Int)×Int×Int))))->Option (((List ((List (List (Int×Int)))×(List (List UInt8))))×(List ((List UInt8)×(List Bool)×(List ((List Int)×Int×Int)))))×Int)):Nat->(List ((List UInt8)×(List Bool)×(List ((List Int)×Int×Int))))->(List (List Int))->(List (List UInt8))->Int->Int->Option (((List ((List (List (Int×Int)))×(List (List UInt8))))×(List ((List UInt8)×(List Bool)×(List ((List Int)×Int×Int)))))×Int)
  |0,_,_,_,_,_=>none
  |n+1,a,b,c,d,e=>m_ref21_Compile_B162 y80 k134 (m_ref21_Compile_L162 y80 k134 n) a b c d e
def m_ref21_Compile (a0:(List ((List UInt8)×Int×Bool×(Int×Int)×(List (Int×Int×Int))))×(List ((List UInt8)×Int×(List Int)×(List (List UInt8))))×(List (Int×Int×Int×Int×(Int×Int)))×(List (List UInt8))) (a1:List UInt8) (a2:Int):Option (((List ((List (List (Int×Int)))×(List (List UInt8))))×(List ((List UInt8)×(List Bool)×(List ((List Int)×Int×Int)))))×Int):=
  jn (λ(c:Bool)=>if c then(none)else(bnd1 (m_examine zeo m_ref18_Head zfh zfk zdd ((a0.1,a0.2.1,a0.2.2.1,a0.2.2.2),[],0) a1 ([]:List (List UInt8))) (λ y20=>jn (λ(d:Int)=>if 12<d then(none)else(bnd1 (m_ref21_builder_shape ((y20.2.1.1,y20.2.1.2.1,y20.2.1.2.2.1,y20.2.1.2.2.2),y20.2.2.1,y20.2.2.2) 0 []) (λ y80=>if y80.1=([]:List UInt8)then(none)else(jn (λ(a:List ((List (List (Int×Int)))×(List (List UInt8)))) (e:List (List Int))=>jn (λ(b:List ((List UInt8)×(List Bool)×(List ((List Int)×Int×Int))))=>some (((a,b).1,(a,b).2),0)) (λ k134=>m_ref21_Compile_L162 y80 k134 FU [] e [y80.1] 0 0)) (λ k83=>m_ref21_Compile_L4 a0 a2 y80 k83 FU [] [] 0))))) (λ k23=>m_ref21_Compile_L2 y20 k23 FU 0 0)))) (λ k8=>bnd1 (zfs a1) (λ y11=>if !y11 then(k8 true)else(bnd1 (m_ref21_Clean a1) (λ y12=>if !y12 then(k8 true)else(if a2<1 then(k8 true)else(k8 (decide (16384<a2))))))))
def zec (a0:List (List UInt8)) (a1:(List UInt8)->Option Bool) (k1:Unit->Option Int) (b:Int->Option Int) (a:Int):Option Int:=
  if a<(List.length a0:Int)then(need ((0:Int)≤a/\a<(List.length a0:Int)) (bnd1 (a1 (gi a0 a)) (λ y14=>if y14 then(some a)else(b (i64 (a+1))))))else(k1 ())
def zeb (a0:List (List UInt8)) (a1:(List UInt8)->Option Bool) (k1:Unit->Option Int):Nat->Int->Option Int
  |0,_=>none
  |n+1,a=>zec a0 a1 k1 (zeb a0 a1 k1 n) a
def zen (a0:List (List UInt8)) (a1:(List UInt8)->Option Bool):Option Int:=
  jn (λ(_:Unit)=>some (-1)) (λ k1=>zeb a0 a1 k1 FU 0)
def zea (a0:List (List UInt8)) (a1:(List UInt8)->Option Bool):Option Bool:=
  bnd1 (zen a0 a1) (λ y1=>some (decide (0≤y1)))
def m_value_ascending_B2 (a0:List (List UInt8)) (k1:Unit->Option Bool) (a:Unit->Option Bool) (u:Unit):Option Bool:=
  if 1<(List.length a0:Int)then(none)else(k1 ())
def m_value_ascending_L2 (a0:List (List UInt8)) (k1:Unit->Option Bool):Nat->Unit->Option Bool
  |0,_=>none
  |n+1,u=>m_value_ascending_B2 a0 k1 (m_value_ascending_L2 a0 k1 n) u
def m_value_ascending (a0:List (List UInt8)):Option Bool:=
  jn (λ(_:Unit)=>some true) (λ k1=>m_value_ascending_L2 a0 k1 FU ())
def m_value_integer_B2 (a0:List UInt8) (k1:Int->Option Int) (c:Int->Int->Option Int) (b:Int) (a:Int):Option Int:=
  if a<9 then(need ((0:Int)≤a/\a<(List.length a0:Int)) (c (bOr .u64 (IntKind.u64.wrap (b*2^min (Int.toNat 8) IntKind.u64.bits)) (UInt8.toNat (gi a0 a):Int)) (i64 (a+1))))else(k1 b)
def m_value_integer_L2 (a0:List UInt8) (k1:Int->Option Int):Nat->Int->Int->Option Int
  |0,_,_=>none
  |n+1,a,b=>m_value_integer_B2 a0 k1 (m_value_integer_L2 a0 k1 n) a b
def m_value_integer (a0:List UInt8):Option Int:=
  jn (λ(a:Int)=>some (i64 (a))) (λ k1=>m_value_integer_L2 a0 k1 FU 0 1)
def m_value_between (a0:List UInt8) (a1:Int) (a2:Int):Option Bool:=
  jn (λ(a:Bool)=>some a) (λ k1=>need ((0:Int)≤0/\0<(List.length a0:Int)) (if(gi a0 0)=1 then(bnd1 (m_value_integer a0) (λ y6=>if a1≤y6 then(bnd1 (m_value_integer a0) (λ y7=>k1 (decide (y7≤a2))))else(k1 false)))else(k1 false)))
def m_value_formed (a0:Int) (a1:List (List UInt8)):Option Bool:=
  jn (λ(_:Unit)=>none) (λ k1=>if a0=3 then(none)else(if a0=5 then(bnd1 (m_value_ascending a1) (λ y12=>some y12))else(if a0=6 then(none)else(if a0=7 then(none)else(if a0=8 then(none)else(if a0=9 then(jn (λ(a:Bool)=>some a) (λ k15=>if 1≤(List.length a1:Int)then(need ((0:Int)≤0/\0<(List.length a1:Int)) (bnd1 (m_value_between (gi a1 0) 1 21) (λ y19=>k15 y19)))else(k15 false)))else(k1 ())))))))
def m_value_long_B2 (d:(List UInt8)->Int->Option Int) (a0:List UInt8) (a1:Int) (k1:Int->(List (List UInt8))->Option Int) (e:Int->(List (List UInt8))->Int->Option Int) (a:Int) (b:List (List UInt8)) (c:Int):Option Int:=
  if c<(bOr .i64 (i64 ((UInt8.toNat (gi a0 1):Int)*2^min (Int.toNat 8) IntKind.i64.bits)) (UInt8.toNat (gi a0 2):Int))then(need ((0:Int)≤a/\a≤(List.length a0:Int)) (bnd1 (d (List.drop (Int.toNat a) a0) (i64 (a1+1))) (λ y33=>if y33=0 then(none)else(need ((0:Int)≤a/\a≤i64 (a+y33)/\(i64 (a+y33))≤(List.length a0:Int)) (need (List.length b+List.length [List.take (Int.toNat (i64 (a+y33)) - Int.toNat a) (List.drop (Int.toNat a) a0)]≤137438953472) (e (i64 (a+y33)) (b++[List.take (Int.toNat (i64 (a+y33)) - Int.toNat a) (List.drop (Int.toNat a) a0)]) (i64 (c+1))))))))else(k1 a b)
def m_value_long_L2 (a:(List UInt8)->Int->Option Int) (a0:List UInt8) (a1:Int) (k1:Int->(List (List UInt8))->Option Int):Nat->Int->(List (List UInt8))->Int->Option Int
  |0,_,_,_=>none
  |n+1,b,c,d=>m_value_long_B2 a a0 a1 k1 (m_value_long_L2 a a0 a1 k1 n) b c d
def m_value_long (a:(List UInt8)->Int->Option Int) (a0:List UInt8) (a1:Int):Option Int:=
  if(List.length a0:Int)<3 then(none)else(jn (λ(b:Int) (c:List (List UInt8))=>need ((0:Int)≤0/\0<(List.length a0:Int)) (bnd1 (m_value_formed (UInt8.toNat (gi a0 0):Int) c) (λ y38=>if !y38 then(none)else(some b)))) (λ k1=>need ((0:Int)≤1/\1<(List.length a0:Int)) (need ((0:Int)≤2/\2<(List.length a0:Int)) (m_value_long_L2 a a0 a1 k1 FU 3 [] 0))))
def m_value_length_F (b:(List UInt8)->Int->Option Int) (a0:List UInt8) (a1:Int):Option Int:=
  jn (λ(c:Bool)=>if c then(none)else(jn (λ(a:Int)=>if(List.length a0:Int)<a then(none)else(some a)) (λ k4=>need ((0:Int)≤0/\0<(List.length a0:Int)) (if(gi a0 0)=1 then(k4 9)else(if(gi a0 0)=2 then(none)else(if(gi a0 0)=10 then(none)else(jn (λ(d:Bool)=>if d then(bnd1 (m_value_long b a0 a1) (λ y16=>some y16))else(k4 0)) (λ k15=>if(gi a0 0)=3 then(k15 (decide ((gi a0 0)=3)))else(if(gi a0 0)=4 then(k15 (decide ((gi a0 0)=4)))else(if(gi a0 0)=5 then(k15 (decide ((gi a0 0)=5)))else(if(gi a0 0)=6 then(k15 (decide ((gi a0 0)=6)))else(if(gi a0 0)=7 then(k15 (decide ((gi a0 0)=7)))else(if(gi a0 0)=8 then(k15 (decide ((gi a0 0)=8)))else(k15 (decide ((gi a0 0)=9)))))))))))))))) (λ k3=>if a0=([]:List UInt8)then(k3 true)else(k3 (decide (32<a1))))
def m_value_length_S:Nat->((List UInt8)->Int->Option Int)
  |0=>(λ _ _=>none)
  |n+1=>m_value_length_F (m_value_length_S n)
def m_value_length (a0:List UInt8) (a1:Int):Option Int:=m_value_length_S FU a0 a1
def m_value_Valid (a0:List UInt8):Option Bool:=
  jn (λ(a:Bool)=>some a) (λ k1=>if¬a0=([]:List UInt8)then(if(List.length a0:Int)≤131072 then(bnd1 (m_value_length a0 1) (λ y3=>k1 (decide (y3=(List.length a0:Int)))))else(k1 false))else(k1 false))
def zic (a0:List UInt8):Option Int:=
  bnd1 (m_value_Valid a0) (λ y1=>if !y1 then(none)else(need ((0:Int)≤0/\0<(List.length a0:Int)) (some (UInt8.toNat (gi a0 0):Int))))
def m_value_simple (a0:Int):Option Bool:=
  jn (λ(a:Bool)=>some a) (λ k1=>if a0=0 then(k1 true)else(if a0=1 then(k1 true)else(if a0=2 then(k1 true)else(k1 (decide (a0=10))))))
def m_value_span_B2 (c:(List UInt8)->Option Int) (a0:List UInt8) (k2:Int->Option Int) (d:Int->Int->Option Int) (a:Int) (b:Int):Option Int:=
  if b<(bOr .i64 (i64 ((UInt8.toNat (gi a0 1):Int)*2^min (Int.toNat 8) IntKind.i64.bits)) (UInt8.toNat (gi a0 2):Int))then(need ((0:Int)≤a/\a≤(List.length a0:Int)) (bnd1 (c (List.drop (Int.toNat a) a0)) (λ y19=>d (i64 (a+y19)) (i64 (b+1)))))else(k2 a)
def m_value_span_L2 (a:(List UInt8)->Option Int) (a0:List UInt8) (k2:Int->Option Int):Nat->Int->Int->Option Int
  |0,_,_=>none
  |n+1,b,c=>m_value_span_B2 a a0 k2 (m_value_span_L2 a a0 k2 n) b c
def m_value_span_F (a:(List UInt8)->Option Int) (a0:List UInt8):Option Int:=
  need ((0:Int)≤0/\0<(List.length a0:Int)) (if(gi a0 0)=1 then(some 9)else(if(gi a0 0)=2 then(none)else(if(gi a0 0)=10 then(none)else(jn (λ(b:Int)=>some b) (λ k2=>need ((0:Int)≤1/\1<(List.length a0:Int)) (need ((0:Int)≤2/\2<(List.length a0:Int)) (m_value_span_L2 a a0 k2 FU 3 0)))))))
def m_value_span_S:Nat->((List UInt8)->Option Int)
  |0=>(λ _=>none)
  |n+1=>m_value_span_F (m_value_span_S n)
def m_value_span (a0:List UInt8):Option Int:=m_value_span_S FU a0
def zed (a0:List (List UInt8)):Option (List (List UInt8)):=
  need (0≤(List.length a0:Int)) (some (List.take (Int.toNat (List.length a0:Int)) a0))
def m_value_parts_B2 (a0:List UInt8) (k1:(List (List UInt8))->Option (List (List UInt8))) (c:(List (List UInt8))->Int->Option (List (List UInt8))) (b:List (List UInt8)) (a:Int):Option (List (List UInt8)):=
  if a<(List.length a0:Int)then(need ((0:Int)≤a/\a≤(List.length a0:Int)) (bnd1 (m_value_span (List.drop (Int.toNat a) a0)) (λ y29=>need ((0:Int)≤a/\a≤i64 (a+y29)/\(i64 (a+y29))≤(List.length a0:Int)) (need (List.length b+List.length [List.take (Int.toNat (i64 (a+y29)) - Int.toNat a) (List.drop (Int.toNat a) a0)]≤137438953472) (c (b++[List.take (Int.toNat (i64 (a+y29)) - Int.toNat a) (List.drop (Int.toNat a) a0)]) (i64 (a+y29)))))))else(k1 b)
def m_value_parts_L2 (a0:List UInt8) (k1:(List (List UInt8))->Option (List (List UInt8))):Nat->(List (List UInt8))->Int->Option (List (List UInt8))
  |0,_,_=>none
  |n+1,a,b=>m_value_parts_B2 a0 k1 (m_value_parts_L2 a0 k1 n) a b
def m_value_parts (a0:List UInt8):Option (List (List UInt8)):=
  jn (λ(a:List (List UInt8))=>bnd1 (zed a) (λ y33=>some y33)) (λ k1=>m_value_parts_L2 a0 k1 FU [] 3)
def m_value_Parts (a0:List UInt8):Option (List (List UInt8)):=
  bnd1 (zic a0) (λ y1=>bnd1 (m_value_simple y1) (λ y2=>if y2 then(none)else(bnd1 (m_value_parts a0) (λ y3=>some y3))))
def zhf (a0:List UInt8):Option Int:=
  bnd1 (zic a0) (λ y1=>if y1=1 then(bnd1 (m_value_integer a0) (λ y2=>some y2))else(if y1=2 then(none)else(if y1=10 then(none)else(none))))
def m_procterm_split (a0:List UInt8):Option (Int×(List (List UInt8))):=
  bnd1 (zic a0) (λ y1=>if¬y1=9 then(none)else(bnd1 (m_value_Parts a0) (λ y2=>need ((0:Int)≤0/\0<(List.length y2:Int)) (bnd1 (zhf (gi y2 0)) (λ y4=>need (1≤(List.length y2:Int)) (some (y4,List.drop (Int.toNat 1) y2)))))))
def m_procterm_event (a0:List UInt8):Option (Int×Bool):=
  bnd1 (zhf a0) (λ y1=>jn (λ(a:Bool)=>some (y1,a)) (λ k2=>bnd1 (zic a0) (λ y4=>if y4=1 then(if 2≤y1 then(k2 (decide (y1<1026)))else(k2 false))else(k2 false))))
def zfa (a0:List (Int×(List UInt8))):Option (List (Int×(List UInt8))):=
  need (0≤(List.length a0:Int)) (some (List.take (Int.toNat (List.length a0:Int)) a0))
def m_procterm_pairUp_B2 (a0:List (List UInt8)) (k1:(List (Int×(List UInt8)))->Option (List (Int×(List UInt8)))) (c:(List (Int×(List UInt8)))->Int->Option (List (Int×(List UInt8)))) (b:List (Int×(List UInt8))) (a:Int):Option (List (Int×(List UInt8))):=
  if a<(List.length a0:Int)then(need ((0:Int)≤a/\a<(List.length a0:Int)) (bnd1 (zhf (gi a0 a)) (λ y29=>need ((0:Int)≤i64 (a+1)/\(i64 (a+1))<(List.length a0:Int)) (need (List.length b+List.length [(y29,gi a0 (i64 (a+1)))]≤137438953472) (c (b++[(y29,gi a0 (i64 (a+1)))]) (i64 (a+2)))))))else(k1 b)
def m_procterm_pairUp_L2 (a0:List (List UInt8)) (k1:(List (Int×(List UInt8)))->Option (List (Int×(List UInt8)))):Nat->(List (Int×(List UInt8)))->Int->Option (List (Int×(List UInt8)))
  |0,_,_=>none
  |n+1,a,b=>m_procterm_pairUp_B2 a0 k1 (m_procterm_pairUp_L2 a0 k1 n) a b
def m_procterm_pairUp (a0:List (List UInt8)):Option (List (Int×(List UInt8))):=
  jn (λ(a:List (Int×(List UInt8)))=>bnd1 (zfa a) (λ y33=>some y33)) (λ k1=>m_procterm_pairUp_L2 a0 k1 FU [] 0)
def m_procterm_offers_B2 (b:(List UInt8)->Option Bool) (a0:List (List UInt8)) (k4:Unit->Option Bool) (c:Int->Option Bool) (a:Int):Option Bool:=
  if a<(List.length a0:Int)then(need ((0:Int)≤a/\a<(List.length a0:Int)) (bnd1 (m_procterm_event (gi a0 a)) (λ y90=>jn (λ(d:Bool)=>if d then(none)else(c (i64 (a+2)))) (λ k91=>if !y90.2 then(k91 true)else(need ((0:Int)≤i64 (a+1)/\(i64 (a+1))<(List.length a0:Int)) (bnd1 (b (gi a0 (i64 (a+1)))) (λ y95=>k91 (!y95))))))))else(k4 ())
def m_procterm_offers_L2 (a:(List UInt8)->Option Bool) (a0:List (List UInt8)) (k4:Unit->Option Bool):Nat->Int->Option Bool
  |0,_=>none
  |n+1,b=>m_procterm_offers_B2 a a0 k4 (m_procterm_offers_L2 a a0 k4 n) b
def m_procterm_offers_B4 (y96:(List (Int×(List UInt8)))) (k97:Unit->Option Bool) (a:Unit->Option Bool) (u:Unit):Option Bool:=
  if 1<(List.length y96:Int)then(none)else(k97 ())
def m_procterm_offers_L4 (y96:(List (Int×(List UInt8)))) (k97:Unit->Option Bool):Nat->Unit->Option Bool
  |0,_=>none
  |n+1,u=>m_procterm_offers_B4 y96 k97 (m_procterm_offers_L4 y96 k97 n) u
def m_procterm_offers (a:(List UInt8)->Option Bool) (a0:List (List UInt8)):Option Bool:=
  jn (λ(b:Bool)=>if b then(none)else(jn (λ(_:Unit)=>bnd1 (m_procterm_pairUp a0) (λ y96=>jn (λ(_:Unit)=>some true) (λ k97=>m_procterm_offers_L4 y96 k97 FU ()))) (λ k4=>m_procterm_offers_L2 a a0 k4 FU 0))) (λ k3=>if(List.length a0:Int)=0 then(k3 true)else(k3 (decide (¬(Int.tmod (List.length a0:Int) 2)=0))))
def m_procterm_number (a0:List UInt8) (a1:Int):Option Bool:=
  bnd1 (zhf a0) (λ y1=>jn (λ(a:Bool)=>some a) (λ k2=>bnd1 (zic a0) (λ y4=>if y4=1 then(if 0≤y1 then(k2 (decide (y1≤a1)))else(k2 false))else(k2 false))))
def m_procterm_form (a0:Int):Option (List UInt8):=
  jn (λ(a:Bool)=>if a then(none)else(jn (λ(b:Bool)=>if b then(some [112,115,112])else(if a0=17 then(none)else(if a0=20 then(none)else(if a0=14 then(none)else(jn (λ(c:Bool)=>if c then(none)else(if a0=19 then(none)else(some ([]:List UInt8)))) (λ k7=>if a0=15 then(k7 (decide (a0=15)))else(k7 (decide (a0=18))))))))) (λ k6=>if a0=12 then(k6 (decide (a0=12)))else(if a0=13 then(k6 (decide (a0=13)))else(k6 (decide (a0=16))))))) (λ k5=>if a0=7 then(k5 (decide (a0=7)))else(if a0=8 then(k5 (decide (a0=8)))else(if a0=9 then(k5 (decide (a0=9)))else(if a0=10 then(k5 (decide (a0=10)))else(k5 (decide (a0=11)))))))
def zfg (a0:List Int):Option (List Int):=
  need (0≤(List.length a0:Int)) (some (List.take (Int.toNat (List.length a0:Int)) a0))
def m_procterm_events_B2 (k2:(List Int)->Option ((List Int)×Bool)) (y17:(List (List UInt8))) (c:(List Int)->Int->Option ((List Int)×Bool)) (b:List Int) (a:Int):Option ((List Int)×Bool):=
  if a<(List.length y17:Int)then(need ((0:Int)≤a/\a<(List.length y17:Int)) (bnd1 (m_procterm_event (gi y17 a)) (λ y27=>if !y27.2 then(none)else(need (List.length b+List.length [y27.1]≤137438953472) (c (b++[y27.1]) (i64 (a+1)))))))else(k2 b)
def m_procterm_events_L2 (k2:(List Int)->Option ((List Int)×Bool)) (y17:(List (List UInt8))):Nat->(List Int)->Int->Option ((List Int)×Bool)
  |0,_,_=>none
  |n+1,a,b=>m_procterm_events_B2 k2 y17 (m_procterm_events_L2 k2 y17 n) a b
def m_procterm_events (a0:List UInt8):Option ((List Int)×Bool):=
  bnd1 (zic a0) (λ y1=>if¬y1=5 then(none)else(jn (λ(a:List Int)=>bnd1 (zfg a) (λ y30=>some (y30,true))) (λ k2=>bnd1 (m_value_Parts a0) (λ y17=>m_procterm_events_L2 k2 y17 FU [] 0))))
def m_procterm_part (a:(List UInt8)->Option Bool) (a0:UInt8) (a1:List UInt8):Option Bool:=
  jn (λ(b:Bool)=>some b) (λ k1=>if a0=112 then(bnd1 (a a1) (λ y4=>k1 y4))else(if a0=115 then(bnd1 (m_procterm_events a1) (λ y5=>k1 y5.2))else(if a0=114 then(none)else(k1 false))))
def m_procterm_term_B2 (b:(List UInt8)->Option Bool) (y1:Int×(List (List UInt8))) (y19:(List UInt8)) (k20:Unit->Option Bool) (c:Int->Option Bool) (a:Int):Option Bool:=
  if a<(List.length y1.2:Int)then(need ((0:Int)≤a/\a<(List.length y1.2:Int)) (need ((0:Int)≤a/\a<(List.length y19:Int)) (bnd1 (m_procterm_part b (gi y19 a) (gi y1.2 a)) (λ y39=>if !y39 then(none)else(c (i64 (a+1)))))))else(k20 ())
def m_procterm_term_L2 (a:(List UInt8)->Option Bool) (y1:Int×(List (List UInt8))) (y19:(List UInt8)) (k20:Unit->Option Bool):Nat->Int->Option Bool
  |0,_=>none
  |n+1,b=>m_procterm_term_B2 a y1 y19 k20 (m_procterm_term_L2 a y1 y19 k20 n) b
def m_procterm_term_F (a:(List UInt8)->Option Bool) (a0:List UInt8):Option Bool:=
  bnd1 (m_procterm_split a0) (λ y1=>if y1.1=0 then(none)else(jn (λ(b:Bool)=>if b then(some (decide ((List.length y1.2:Int)=0)))else(if y1.1=5 then(none)else(if y1.1=6 then(bnd1 (m_procterm_offers a y1.2) (λ y13=>some y13))else(if y1.1=21 then(jn (λ(c:Bool)=>some c) (λ k14=>if(List.length y1.2:Int)=1 then(need ((0:Int)≤0/\0<(List.length y1.2:Int)) (bnd1 (m_procterm_number (gi y1.2 0) 11) (λ y18=>k14 y18)))else(k14 false)))else(bnd1 (m_procterm_form y1.1) (λ y19=>if¬(List.length y1.2:Int)=(List.length y19:Int)then(none)else(jn (λ(_:Unit)=>if¬y1.1=18 then(some true)else(none)) (λ k20=>m_procterm_term_L2 a y1 y19 k20 FU 0)))))))) (λ k11=>if y1.1=1 then(k11 (decide (y1.1=1)))else(if y1.1=2 then(k11 (decide (y1.1=2)))else(if y1.1=3 then(k11 (decide (y1.1=3)))else(k11 (decide (y1.1=4))))))))
def m_procterm_term_S:Nat->((List UInt8)->Option Bool)
  |0=>(λ _=>none)
  |n+1=>m_procterm_term_F (m_procterm_term_S n)
def m_procterm_term (a0:List UInt8):Option Bool:=m_procterm_term_S FU a0
def m_procterm_Valid (a0:List UInt8):Option Bool:=
  bnd1 (m_procterm_term a0) (λ y1=>some y1)
def m_combinator_Valid_1 (a0:List UInt8):Option Bool:=
  bnd1 (m_procterm_Valid a0) (λ y1=>some (!y1))
def m_procterm_Op (a0:List UInt8):Option Int:=
  bnd1 (m_procterm_term a0) (λ y1=>if !y1 then(none)else(bnd1 (m_procterm_split a0) (λ y2=>some y2.1)))
def m_combinator_parallel (a0:Int):Option Bool:=
  jn (λ(a:Bool)=>some a) (λ k1=>if a0=16 then(k1 true)else(if a0=17 then(k1 true)else(k1 (decide (a0=20)))))
def m_combinator_structural (a0:Int):Option Bool:=
  jn (λ(a:Bool)=>if a then(none)else(bnd1 (m_combinator_parallel a0) (λ y4=>some y4))) (λ k3=>if a0=14 then(k3 (decide (a0=14)))else(if a0=15 then(k3 (decide (a0=15)))else(if a0=7 then(k3 (decide (a0=7)))else(if a0=13 then(k3 (decide (a0=13)))else(if a0=10 then(k3 (decide (a0=10)))else(if a0=11 then(k3 (decide (a0=11)))else(if a0=12 then(k3 (decide (a0=12)))else(k3 (decide (a0=9))))))))))
def m_procterm_open (a0:List UInt8):Option (Int×(List (List UInt8))):=
  bnd1 (m_procterm_term a0) (λ y1=>if !y1 then(none)else(bnd1 (m_procterm_split a0) (λ y2=>some (y2.1,y2.2))))
def m_procterm_pick_B2 (a1:List (List UInt8)) (a2:UInt8) (y1:(List UInt8)) (k2:(List (List UInt8))->Option (List (List UInt8))) (c:(List (List UInt8))->Nat->Option (List (List UInt8))) (b:List (List UInt8)) (a:Nat):Option (List (List UInt8)):=
  if a<List.length y1 then(need ((0:Int)≤(a:Int)/\(a:Int)<(List.length y1:Int)) (if(gi y1 (a:Int))=a2 then(need ((0:Int)≤(a:Int)/\(a:Int)<(List.length a1:Int)) (need (List.length b+List.length [gi a1 (a:Int)]≤137438953472) (c (b++[gi a1 (a:Int)]) (sNx y1 a))))else(c b (sNx y1 a))))else(k2 b)
def m_procterm_pick_L2 (a1:List (List UInt8)) (a2:UInt8) (y1:(List UInt8)) (k2:(List (List UInt8))->Option (List (List UInt8))):Nat->(List (List UInt8))->Nat->Option (List (List UInt8))
  |0,_,_=>none
  |n+1,a,b=>m_procterm_pick_B2 a1 a2 y1 k2 (m_procterm_pick_L2 a1 a2 y1 k2 n) a b
def m_procterm_pick (a0:Int) (a1:List (List UInt8)) (a2:UInt8):Option (List (List UInt8)):=
  bnd1 (m_procterm_form a0) (λ y1=>jn (λ(a:List (List UInt8))=>bnd1 (zed a) (λ y30=>some y30)) (λ k2=>m_procterm_pick_L2 a1 a2 y1 k2 FU [] 0))
def m_procterm_Operands (a0:List UInt8):Option (List (List UInt8)):=
  bnd1 (m_procterm_open a0) (λ y1=>if¬y1.1=6 then(bnd1 (m_procterm_pick y1.1 y1.2 112) (λ y2=>some y2))else(none))
def m_combinator_formed_B2 (c:(List UInt8)->Int->Option (Bool×Int)) (k3:Int->Option (Bool×Int)) (y12:(List (List UInt8))) (d:Int->Int->Option (Bool×Int)) (b:Int) (a:Int):Option (Bool×Int):=
  if a<(List.length y12:Int)then(need ((0:Int)≤a/\a<(List.length y12:Int)) (bnd1 (c (gi y12 a) b) (λ y18=>if !y18.1 then(none)else(d y18.2 (i64 (a+1))))))else(k3 b)
def m_combinator_formed_L2 (a:(List UInt8)->Int->Option (Bool×Int)) (k3:Int->Option (Bool×Int)) (y12:(List (List UInt8))):Nat->Int->Int->Option (Bool×Int)
  |0,_,_=>none
  |n+1,b,c=>m_combinator_formed_B2 a k3 y12 (m_combinator_formed_L2 a k3 y12 n) b c
def m_combinator_formed_F (a:(List UInt8)->Int->Option (Bool×Int)) (a0:List UInt8) (a1:Int):Option (Bool×Int):=
  bnd1 (m_procterm_Op a0) (λ y1=>if y1=21 then(some (true,i64 (a1+1)))else(if y1=4 then(some (true,a1))else(bnd1 (m_combinator_structural y1) (λ y2=>if !y2 then(none)else(jn (λ(b:Int)=>some (true,b)) (λ k3=>bnd1 (m_procterm_Operands a0) (λ y12=>m_combinator_formed_L2 a k3 y12 FU a1 0)))))))
def zhe:Nat->((List UInt8)->Int->Option (Bool×Int))
  |0=>(λ _ _=>none)
  |n+1=>m_combinator_formed_F (zhe n)
def m_combinator_formed (a0:List UInt8) (a1:Int):Option (Bool×Int):=zhe FU a0 a1
def zfy (a0:List Int) (b:Int) (k694:(List Int)->Int->Option (List Int)) (e:(List Int)->Int->Int->Option (List Int)) (c:List Int) (d:Int) (a:Int):Option (List Int):=
  if a<((Int.toNat (List.length a0:Int) - Int.toNat b:Nat):Int)then(jn (λ(f:List Int) (g:Int)=>e f g (i64 (a+1))) (λ k741=>need ((0:Int)≤b/\(0:Int)≤a/\a<(List.length a0:Int) - b/\(0:Int)≤(b+a)/\(b+a)<(List.length c:Int)) (need ((0:Int)≤b/\(0:Int)≤i64 (a - 1)/\(i64 (a - 1))<(List.length a0:Int) - b/\(0:Int)≤(b+(i64 (a - 1)))/\(b+(i64 (a - 1)))<(List.length c:Int)) (if¬(gi c (b+a))=(gi c (b+(i64 (a - 1))))then(need ((0:Int)≤b/\(0:Int)≤a/\a<(List.length a0:Int) - b/\(0:Int)≤(b+a)/\(b+a)<(List.length c:Int)) (need ((0:Int)≤d/\d<(List.length c:Int)) (k741 (List.set c (Int.toNat d) (gi c (b+a))) (i64 (d+1)))))else(k741 c d)))))else(k694 c d)
def zfv (a0:List Int) (a:Int) (k694:(List Int)->Int->Option (List Int)):Nat->(List Int)->Int->Int->Option (List Int)
  |0,_,_,_=>none
  |n+1,b,c,d=>zfy a0 a k694 (zfv a0 a k694 n) b c d
def zfw (a0:List Int) (k1:Unit->Option (List Int)) (d:Int->Option (List Int)) (b:Int):Option (List Int):=
  if b<(List.length a0:Int)then(jn (λ(_:Unit)=>d (i64 (b+1))) (λ k628=>need ((0:Int)≤b/\b<(List.length a0:Int)) (need ((0:Int)≤i64 (b - 1)/\(i64 (b - 1))<(List.length a0:Int)) (if(gi a0 b)=(gi a0 (i64 (b - 1)))then(need ((0:Int)≤b/\b≤(List.length a0:Int)/\(List.length a0:Int)≤(List.length a0:Int)) (jn (λ(c:List Int) (a:Int)=>need ((0:Int)≤a/\a≤(List.length c:Int)/\(List.length c:Int)≤(List.length c:Int)) (need (0≤a/\a≤(List.length (List.take (Int.toNat a) c++List.replicate (Int.toNat (List.length c:Int) - Int.toNat a) (0:Int)++List.drop (Int.toNat a+(Int.toNat (List.length c:Int) - Int.toNat a)) c):Int)) (some (List.take (Int.toNat a) (List.take (Int.toNat a) c++List.replicate (Int.toNat (List.length c:Int) - Int.toNat a) (0:Int)++List.drop (Int.toNat a+(Int.toNat (List.length c:Int) - Int.toNat a)) c))))) (λ k694=>zfv a0 b k694 FU a0 b 1)))else(k628 ())))))else(k1 ())
def zfu (a0:List Int) (k1:Unit->Option (List Int)):Nat->Int->Option (List Int)
  |0,_=>none
  |n+1,a=>zfw a0 k1 (zfu a0 k1 n) a
def zfm (a0:List Int):Option (List Int):=
  if(List.length a0:Int)<2 then(some a0)else(jn (λ(_:Unit)=>some a0) (λ k1=>zfu a0 k1 FU 1))
def m_procterm_Holes_B2 (c:(List UInt8)->Option (List Int)) (k4:(List Int)->Option (List Int)) (y19:(List (List UInt8))) (d:(List Int)->Int->Option (List Int)) (b:List Int) (a:Int):Option (List Int):=
  if a<(List.length y19:Int)then(need ((0:Int)≤a/\a<(List.length y19:Int)) (bnd1 (c (gi y19 a)) (λ y29=>need (List.length b+List.length y29≤137438953472) (d (b++y29) (i64 (a+1))))))else(k4 b)
def m_procterm_Holes_L2 (a:(List UInt8)->Option (List Int)) (k4:(List Int)->Option (List Int)) (y19:(List (List UInt8))):Nat->(List Int)->Int->Option (List Int)
  |0,_,_=>none
  |n+1,b,c=>m_procterm_Holes_B2 a k4 y19 (m_procterm_Holes_L2 a k4 y19 n) b c
def m_procterm_Holes_F (a:(List UInt8)->Option (List Int)) (a0:List UInt8):Option (List Int):=
  bnd1 (m_procterm_open a0) (λ y1=>if y1.1=21 then(need ((0:Int)≤0/\0<(List.length y1.2:Int)) (bnd1 (zhf (gi y1.2 0)) (λ y3=>some [y3])))else(jn (λ(b:List Int)=>bnd1 (m_sortE b) (λ y32=>bnd1 (zfm y32) (λ y33=>bnd1 (zfg y33) (λ y34=>some y34)))) (λ k4=>bnd1 (m_procterm_Operands a0) (λ y19=>m_procterm_Holes_L2 a k4 y19 FU [] 0))))
def m_procterm_Holes_S:Nat->((List UInt8)->Option (List Int))
  |0=>(λ _=>none)
  |n+1=>m_procterm_Holes_F (m_procterm_Holes_S n)
def m_procterm_Holes (a0:List UInt8):Option (List Int):=m_procterm_Holes_S FU a0
def m_combinator_shape (a0:List UInt8):Option Bool:=
  jn (λ(a:Bool)=>some a) (λ k2=>bnd1 (m_procterm_Valid a0) (λ y6=>if y6 then(bnd1 (m_combinator_formed a0 0) (λ y7=>if y7.1 then(bnd1 (m_procterm_Holes a0) (λ y8=>k2 (decide (y7.2=(List.length y8:Int)))))else(k2 false)))else(k2 false)))
def zho (a0:Int) (a1:Int):Option Bool:=
  some (decide (a1≤a0))
def zfq (a0:List Int) (a1:Int->Option Bool) (k1:Unit->Option Int) (b:Int->Option Int) (a:Int):Option Int:=
  if a<(List.length a0:Int)then(need ((0:Int)≤a/\a<(List.length a0:Int)) (bnd1 (a1 (gi a0 a)) (λ y14=>if y14 then(some a)else(b (i64 (a+1))))))else(k1 ())
def zfp (a0:List Int) (a1:Int->Option Bool) (k1:Unit->Option Int):Nat->Int->Option Int
  |0,_=>none
  |n+1,a=>zfq a0 a1 k1 (zfp a0 a1 k1 n) a
def zgk (a0:List Int) (a1:Int->Option Bool):Option Int:=
  jn (λ(_:Unit)=>some (-1)) (λ k1=>zfp a0 a1 k1 FU 0)
def zfo (a0:List Int) (a1:Int->Option Bool):Option Bool:=
  bnd1 (zgk a0 a1) (λ y1=>some (decide (0≤y1)))
def m_combinator_alive_B2 (k3:(List Bool)->Option (List Bool)) (y12:(List Int)) (c:(List Bool)->Int->Option (List Bool)) (b:List Bool) (a:Int):Option (List Bool):=
  if a<(List.length y12:Int)then(need ((0:Int)≤a/\a<(List.length y12:Int)) (need ((0:Int)≤gi y12 a/\(gi y12 a)<(List.length b:Int)) (c (List.set b (Int.toNat (gi y12 a)) true) (i64 (a+1)))))else(k3 b)
def m_combinator_alive_L2 (k3:(List Bool)->Option (List Bool)) (y12:(List Int)):Nat->(List Bool)->Int->Option (List Bool)
  |0,_,_=>none
  |n+1,a,b=>m_combinator_alive_B2 k3 y12 (m_combinator_alive_L2 k3 y12 n) a b
def m_combinator_alive (a0:List UInt8) (a1:Int):Option (List Bool):=
  need ((0:Int)≤a1/\(a1:Int)≤137438953472) (jn (λ(a:List Bool)=>some a) (λ k3=>bnd1 (m_procterm_Holes a0) (λ y12=>m_combinator_alive_L2 k3 y12 FU (List.replicate (Int.toNat a1) (false:Bool)) 0)))
def zgd (a0:List Bool) (a1:List Bool) (k1:Unit->Option Bool) (b:Int->Option Bool) (a:Int):Option Bool:=
  if a<(List.length a0:Int)then(need ((0:Int)≤a/\a<(List.length a0:Int)) (need ((0:Int)≤a/\a<(List.length a1:Int)) (if¬(gi a0 a)=(gi a1 a)then(some false)else(b (i64 (a+1))))))else(k1 ())
def zgb (a0:List Bool) (a1:List Bool) (k1:Unit->Option Bool):Nat->Int->Option Bool
  |0,_=>none
  |n+1,a=>zgd a0 a1 k1 (zgb a0 a1 k1 n) a
def zgz (a0:List Bool) (a1:List Bool):Option Bool:=
  if¬(List.length a0:Int)=(List.length a1:Int)then(some false)else(jn (λ(_:Unit)=>some true) (λ k1=>zgb a0 a1 k1 FU 0))
def m_alphabet_visible (a0:Int):Option Bool:=
  jn (λ(a:Bool)=>some a) (λ k1=>if 2≤a0 then(k1 (decide (a0<1026)))else(k1 false))
def m_alphabet_Set_B2 (a0:List Int) (k1:(List Int)->Option (List Int)) (c:(List Int)->Int->Option (List Int)) (b:List Int) (a:Int):Option (List Int):=
  if a<(List.length a0:Int)then(jn (λ(d:List Int)=>c d (i64 (a+1))) (λ k48=>need ((0:Int)≤a/\a<(List.length a0:Int)) (bnd1 (m_alphabet_visible (gi a0 a)) (λ y54=>if y54 then(need (List.length b+List.length [gi a0 a]≤137438953472) (k48 (b++[gi a0 a])))else(k48 b)))))else(k1 b)
def m_alphabet_Set_L2 (a0:List Int) (k1:(List Int)->Option (List Int)):Nat->(List Int)->Int->Option (List Int)
  |0,_,_=>none
  |n+1,a,b=>m_alphabet_Set_B2 a0 k1 (m_alphabet_Set_L2 a0 k1 n) a b
def m_alphabet_Set (a0:List Int):Option (List Int):=
  jn (λ(a:List Int)=>bnd1 (m_sortE a) (λ y57=>bnd1 (zfm y57) (λ y58=>bnd1 (zfg y58) (λ y59=>some y59)))) (λ k1=>m_alphabet_Set_L2 a0 k1 FU [] 0)
def m_explore_event (a0:Int):Option Bool:=
  jn (λ(a:Bool)=>some a) (λ k1=>if a0=0 then(k1 true)else(if a0=1 then(k1 true)else(bnd1 (m_alphabet_Set [a0]) (λ y3=>k1 (decide ((List.length y3:Int)=1))))))
def m_explore_formed_B14 (a0:(List (List (Int×Int)))) (b:Int) (k358:Unit->Option Bool) (c:Int->Option Bool) (a:Int):Option Bool:=
  if a<(List.length (gi a0 b):Int)then(need ((0:Int)≤a/\a<(List.length (gi a0 b):Int)) (jn (λ(d:Bool)=>if d then(none)else(c (i64 (a+1)))) (λ k425=>bnd1 (m_explore_event ((gi (gi a0 b) a).1)) (λ y427=>if !y427 then(k425 true)else(if((gi (gi a0 b) a).2)<0 then(k425 true)else(k425 (decide ((List.length a0:Int)≤((gi (gi a0 b) a).2)))))))))else(k358 ())
def m_explore_formed_L14 (a0:(List (List (Int×Int)))) (a:Int) (k358:Unit->Option Bool):Nat->Int->Option Bool
  |0,_=>none
  |n+1,b=>m_explore_formed_B14 a0 a k358 (m_explore_formed_L14 a0 a k358 n) b
def m_explore_formed_B8 (a0:(List (List (Int×Int)))) (k1:Int->Option Bool) (c:Int->Int->Option Bool) (b:Int) (a:Int):Option Bool:=
  if a<(List.length a0:Int)then(jn (λ(_:Unit)=>c (i64 (b+(List.length (gi a0 a):Int))) (i64 (a+1))) (λ k358=>need ((0:Int)≤a/\a<(List.length a0:Int)) (m_explore_formed_L14 a0 a k358 FU 0)))else(k1 b)
def m_explore_formed_L8 (a0:(List (List (Int×Int)))) (k1:Int->Option Bool):Nat->Int->Int->Option Bool
  |0,_,_=>none
  |n+1,a,b=>m_explore_formed_B8 a0 k1 (m_explore_formed_L8 a0 k1 n) a b
def m_explore_formed (a0:(List (List (Int×Int)))):Option Bool:=
  jn (λ(a:Int)=>jn (λ(b:Bool)=>some b) (λ k428=>if 1≤(List.length a0:Int)then(if(List.length a0:Int)≤16384 then(k428 (decide (a≤262144)))else(k428 false))else(k428 false))) (λ k1=>m_explore_formed_L8 a0 k1 FU 0 0)
def m_explore_compareArcs (a0:Int×Int) (a1:Int×Int):Option Int:=
  none
def m_explore_Canonical_B14 (a0:(List (List (Int×Int)))) (b:Int) (k839:Int->Option Bool) (d:Int->Int->Option Bool) (c:Int) (a:Int):Option Bool:=
  if a<(List.length (gi a0 b):Int)then(need ((0:Int)≤a/\a<(List.length (gi a0 b):Int)) (jn (λ(e:Bool)=>if e then(none)else(d (max c (i64 (((gi (gi a0 b) a).2)+1))) (i64 (a+1)))) (λ k1000=>if 0<a then(need ((0:Int)≤i64 (a - 1)/\(i64 (a - 1))<(List.length (gi a0 b):Int)) (bnd1 (m_explore_compareArcs (gi (gi a0 b) (i64 (a - 1))) ((gi (gi a0 b) a).1,(gi (gi a0 b) a).2)) (λ y1004=>if 0≤y1004 then(k1000 true)else(k1000 (decide (c<((gi (gi a0 b) a).2)))))))else(k1000 (decide (c<((gi (gi a0 b) a).2)))))))else(k839 c)
def m_explore_Canonical_L14 (a0:(List (List (Int×Int)))) (a:Int) (k839:Int->Option Bool):Nat->Int->Int->Option Bool
  |0,_,_=>none
  |n+1,b,c=>m_explore_Canonical_B14 a0 a k839 (m_explore_Canonical_L14 a0 a k839 n) b c
def m_explore_Canonical_B8 (a0:(List (List (Int×Int)))) (k2:Unit->Option Bool) (c:Int->Int->Option Bool) (b:Int) (a:Int):Option Bool:=
  if a<(List.length a0:Int)then(jn (λ(d:Int)=>c d (i64 (a+1))) (λ k839=>need ((0:Int)≤a/\a<(List.length a0:Int)) (if a=b then(none)else(m_explore_Canonical_L14 a0 a k839 FU b 0))))else(k2 ())
def m_explore_Canonical_L8 (a0:(List (List (Int×Int)))) (k2:Unit->Option Bool):Nat->Int->Int->Option Bool
  |0,_,_=>none
  |n+1,a,b=>m_explore_Canonical_B8 a0 k2 (m_explore_Canonical_L8 a0 k2 n) a b
def m_explore_Canonical (a0:(List (List (Int×Int)))):Option Bool:=
  bnd1 (m_explore_formed a0) (λ y1=>if !y1 then(none)else(jn (λ(_:Unit)=>some true) (λ k2=>m_explore_Canonical_L8 a0 k2 FU 1 0)))
def zgh (a0:List Bool) (a1:Bool) (k1:Unit->Option Int) (b:Int->Option Int) (a:Int):Option Int:=
  if a<(List.length a0:Int)then(need ((0:Int)≤a/\a<(List.length a0:Int)) (if a1=(gi a0 a)then(some a)else(b (i64 (a+1)))))else(k1 ())
def zgc (a0:List Bool) (a1:Bool) (k1:Unit->Option Int):Nat->Int->Option Int
  |0,_=>none
  |n+1,a=>zgh a0 a1 k1 (zgc a0 a1 k1 n) a
def zgy (a0:List Bool) (a1:Bool):Option Int:=
  jn (λ(_:Unit)=>some (-1)) (λ k1=>zgc a0 a1 k1 FU 0)
def zgg (a0:List Bool) (a1:Bool):Option Bool:=
  bnd1 (zgy a0 a1) (λ y1=>some (decide (0≤y1)))
def m_combinator_event (a0:Int):Option Bool:=
  jn (λ(a:Bool)=>some a) (λ k1=>if 0≤a0 then(k1 (decide (a0<1026)))else(k1 false))
def m_cmp_isNaN_int (a0:Int):Option Bool:=
  some (decide (¬a0=a0))
def zep (a0:Int) (a1:Int):Option Int:=
  bnd1 (m_cmp_isNaN_int a0) (λ y1=>bnd1 (m_cmp_isNaN_int a1) (λ y2=>if y1 then(if y2 then(some 0)else(some (-1)))else(if y2 then(some 1)else(if a0<a1 then(some (-1))else(if a1<a0 then(some 1)else(some 0))))))
def zgi (a0:List Int) (a1:List Int) (k1:Unit->Option Int) (b:Int->Option Int) (a:Int):Option Int:=
  if a<(List.length a0:Int)then(need ((0:Int)≤a/\a<(List.length a0:Int)) (if(List.length a1:Int)≤a then(some 1)else(need ((0:Int)≤a/\a<(List.length a1:Int)) (bnd1 (zep (gi a0 a) (gi a1 a)) (λ y20=>if¬y20=0 then(some y20)else(b (i64 (a+1))))))))else(k1 ())
def zge (a0:List Int) (a1:List Int) (k1:Unit->Option Int):Nat->Int->Option Int
  |0,_=>none
  |n+1,a=>zgi a0 a1 k1 (zge a0 a1 k1 n) a
def zfn (a0:List Int) (a1:List Int):Option Int:=
  jn (λ(_:Unit)=>if(List.length a0:Int)<(List.length a1:Int)then(some (-1))else(some 0)) (λ k1=>zge a0 a1 k1 FU 0)
def m_cmp_Or_int_B2 (a0:List Int) (k1:Unit->Option Int) (b:Int->Option Int) (a:Int):Option Int:=
  if a<(List.length a0:Int)then(need ((0:Int)≤a/\a<(List.length a0:Int)) (if¬(gi a0 a)=0 then(some (gi a0 a))else(b (i64 (a+1)))))else(k1 ())
def m_cmp_Or_int_L2 (a0:List Int) (k1:Unit->Option Int):Nat->Int->Option Int
  |0,_=>none
  |n+1,a=>m_cmp_Or_int_B2 a0 k1 (m_cmp_Or_int_L2 a0 k1 n) a
def m_cmp_Or_int (a0:List Int):Option Int:=
  jn (λ(_:Unit)=>some 0) (λ k1=>m_cmp_Or_int_L2 a0 k1 FU 0)
def zhg (a0:(List Int)×Int×Int) (a1:(List Int)×Int×Int):Option Int:=
  bnd1 (zfn a0.1 a1.1) (λ y1=>bnd1 (zep a0.2.1 a1.2.1) (λ y2=>bnd1 (zep a0.2.2 a1.2.2) (λ y3=>bnd1 (m_cmp_Or_int [y1,y2,y3]) (λ y4=>some y4))))
def zhs (a0:(List UInt8)×(List Bool)×(List ((List Int)×Int×Int))) (a1:List ((List UInt8)×(List Bool)×(List ((List Int)×Int×Int)))) (b:Int) (k1298:Unit->Option Bool) (c:Int->Option Bool) (a:Int):Option Bool:=
  if a<(List.length ((gi a0.2.2 b).1):Int)then(need ((0:Int)≤a/\a<(List.length ((gi a0.2.2 b).1):Int)) (jn (λ(d:Bool)=>if d then(none)else(c (i64 (a+1)))) (λ k1539=>if¬(gi ((gi a0.2.2 b).1) a)=(-1)then(bnd1 (m_combinator_event (gi ((gi a0.2.2 b).1) a)) (λ y1548=>if !y1548 then(k1539 true)else(need ((0:Int)≤a/\a<(List.length a0.2.1:Int)) (if !(gi a0.2.1 a)then(k1539 true)else(need ((0:Int)≤(gi a0.2.2 b).2.2/\((gi a0.2.2 b).2.2)<(List.length a1:Int)) (need ((0:Int)≤a/\a<(List.length ((gi a1 ((gi a0.2.2 b).2.2)).2.1):Int)) (if gi ((gi a1 ((gi a0.2.2 b).2.2)).2.1) a then(need ((0:Int)≤a/\a<(List.length a0.2.1:Int)) (k1539 (!(gi a0.2.1 a))))else(k1539 false))))))))else(need ((0:Int)≤(gi a0.2.2 b).2.2/\((gi a0.2.2 b).2.2)<(List.length a1:Int)) (need ((0:Int)≤a/\a<(List.length ((gi a1 ((gi a0.2.2 b).2.2)).2.1):Int)) (if gi ((gi a1 ((gi a0.2.2 b).2.2)).2.1) a then(need ((0:Int)≤a/\a<(List.length a0.2.1:Int)) (k1539 (!(gi a0.2.1 a))))else(k1539 false)))))))else(k1298 ())
def zht (a0:(List UInt8)×(List Bool)×(List ((List Int)×Int×Int))) (a1:List ((List UInt8)×(List Bool)×(List ((List Int)×Int×Int)))) (a:Int) (k1298:Unit->Option Bool):Nat->Int->Option Bool
  |0,_=>none
  |n+1,b=>zhs a0 a1 a k1298 (zht a0 a1 a k1298 n) b
def m_combinator_ordered_B8 (a0:(List UInt8)×(List Bool)×(List ((List Int)×Int×Int))) (a1:List ((List UInt8)×(List Bool)×(List ((List Int)×Int×Int)))) (k1:Unit->Option Bool) (b:Int->Option Bool) (a:Int):Option Bool:=
  if a<(List.length a0.2.2:Int)then(jn (λ(_:Unit)=>b (i64 (a+1))) (λ k1298=>need ((0:Int)≤a/\a<(List.length a0.2.2:Int)) (jn (λ(c:Bool)=>if c then(none)else(zht a0 a1 a k1298 FU 0)) (λ k1438=>bnd1 (m_combinator_event ((gi a0.2.2 a).2.1)) (λ y1442=>if !y1442 then(k1438 true)else(if((gi a0.2.2 a).2.2)<0 then(k1438 true)else(if(List.length a1:Int)≤((gi a0.2.2 a).2.2)then(k1438 true)else(if¬(List.length ((gi a0.2.2 a).1):Int)=(List.length a0.2.1:Int)then(k1438 true)else(if 0<a then(need ((0:Int)≤i64 (a - 1)/\(i64 (a - 1))<(List.length a0.2.2:Int)) (bnd1 (zhg (gi a0.2.2 (i64 (a - 1))) ((gi a0.2.2 a).1,(gi a0.2.2 a).2.1,(gi a0.2.2 a).2.2)) (λ y1444=>k1438 (decide (0≤y1444)))))else(k1438 false))))))))))else(k1 ())
def m_combinator_ordered_L8 (a0:(List UInt8)×(List Bool)×(List ((List Int)×Int×Int))) (a1:List ((List UInt8)×(List Bool)×(List ((List Int)×Int×Int)))) (k1:Unit->Option Bool):Nat->Int->Option Bool
  |0,_=>none
  |n+1,a=>m_combinator_ordered_B8 a0 a1 k1 (m_combinator_ordered_L8 a0 a1 k1 n) a
def m_combinator_ordered (a0:(List UInt8)×(List Bool)×(List ((List Int)×Int×Int))) (a1:List ((List UInt8)×(List Bool)×(List ((List Int)×Int×Int)))):Option Bool:=
  jn (λ(_:Unit)=>some true) (λ k1=>m_combinator_ordered_L8 a0 a1 k1 FU 0)
def zhm (a0:(List UInt8)×(List Bool)×(List ((List Int)×Int×Int))) (a1:(List ((List (List (Int×Int)))×(List (List UInt8))))×(List ((List UInt8)×(List Bool)×(List ((List Int)×Int×Int))))):Option Bool:=
  bnd1 (m_combinator_ordered a0 a1.2) (λ y1=>some (!y1))
def zdt (a0:List ((List UInt8)×(List Bool)×(List ((List Int)×Int×Int)))) (a1:((List UInt8)×(List Bool)×(List ((List Int)×Int×Int)))->Option Bool) (k1:Unit->Option Int) (b:Int->Option Int) (a:Int):Option Int:=
  if a<(List.length a0:Int)then(need ((0:Int)≤a/\a<(List.length a0:Int)) (bnd1 (a1 (gi a0 a)) (λ y14=>if y14 then(some a)else(b (i64 (a+1))))))else(k1 ())
def zdp (a0:List ((List UInt8)×(List Bool)×(List ((List Int)×Int×Int)))) (a1:((List UInt8)×(List Bool)×(List ((List Int)×Int×Int)))->Option Bool) (k1:Unit->Option Int):Nat->Int->Option Int
  |0,_=>none
  |n+1,a=>zdt a0 a1 k1 (zdp a0 a1 k1 n) a
def zee (a0:List ((List UInt8)×(List Bool)×(List ((List Int)×Int×Int)))) (a1:((List UInt8)×(List Bool)×(List ((List Int)×Int×Int)))->Option Bool):Option Int:=
  jn (λ(_:Unit)=>some (-1)) (λ k1=>zdp a0 a1 k1 FU 0)
def zdr (a0:List ((List UInt8)×(List Bool)×(List ((List Int)×Int×Int)))) (a1:((List UInt8)×(List Bool)×(List ((List Int)×Int×Int)))->Option Bool):Option Bool:=
  bnd1 (zee a0 a1) (λ y1=>some (decide (0≤y1)))
def m_combinator_ruled_B2 (a0:(List ((List (List (Int×Int)))×(List (List UInt8))))×(List ((List UInt8)×(List Bool)×(List ((List Int)×Int×Int))))) (k5:Unit->Option Bool) (b:Int->Option Bool) (a:Int):Option Bool:=
  if a<(List.length a0.1:Int)then(need ((0:Int)≤a/\a<(List.length a0.1:Int)) (bnd1 (m_explore_Canonical ((gi a0.1 a).1)) (λ y24=>if !y24 then(none)else(b (i64 (a+1))))))else(k5 ())
def m_combinator_ruled_L2 (a0:(List ((List (List (Int×Int)))×(List (List UInt8))))×(List ((List UInt8)×(List Bool)×(List ((List Int)×Int×Int))))) (k5:Unit->Option Bool):Nat->Int->Option Bool
  |0,_=>none
  |n+1,a=>m_combinator_ruled_B2 a0 k5 (m_combinator_ruled_L2 a0 k5 n) a
def m_combinator_ruled_B4 (a0:(List ((List (List (Int×Int)))×(List (List UInt8))))×(List ((List UInt8)×(List Bool)×(List ((List Int)×Int×Int))))) (k25:Int->Option Bool) (c:Int->Int->Option Bool) (b:Int) (a:Int):Option Bool:=
  if a<(List.length a0.2:Int)then(need ((0:Int)≤a/\a<(List.length a0.2:Int)) (jn (λ(d:Bool)=>if d then(none)else(c (i64 (b+(List.length ((gi a0.2 a).2.2):Int))) (i64 (a+1)))) (λ k90=>if¬(List.length ((gi a0.2 a).2.1):Int)=(List.length a0.1:Int)then(k90 true)else(if a=0 then(bnd1 (zgg ((gi a0.2 a).2.1) false) (λ y92=>k90 y92))else(k90 false)))))else(k25 b)
def m_combinator_ruled_L4 (a0:(List ((List (List (Int×Int)))×(List (List UInt8))))×(List ((List UInt8)×(List Bool)×(List ((List Int)×Int×Int))))) (k25:Int->Option Bool):Nat->Int->Int->Option Bool
  |0,_,_=>none
  |n+1,a,b=>m_combinator_ruled_B4 a0 k25 (m_combinator_ruled_L4 a0 k25 n) a b
def m_combinator_ruled (a0:(List ((List (List (Int×Int)))×(List (List UInt8))))×(List ((List UInt8)×(List Bool)×(List ((List Int)×Int×Int))))):Option Bool:=
  jn (λ(a:Bool)=>if a then(none)else(jn (λ(_:Unit)=>jn (λ(b:Int)=>jn (λ(c:Bool)=>some c) (λ k93=>if b≤16384 then(bnd1 (zdr a0.2 (λ(x0:(List UInt8)×(List Bool)×(List ((List Int)×Int×Int)))=>zhm x0 (a0.1,a0.2))) (λ y95=>k93 (!y95)))else(k93 false))) (λ k25=>m_combinator_ruled_L4 a0 k25 FU 0 0)) (λ k5=>m_combinator_ruled_L2 a0 k5 FU 0))) (λ k4=>if(List.length a0.1:Int)<1 then(k4 true)else(if 12<(List.length a0.1:Int)then(k4 true)else(if(List.length a0.2:Int)<1 then(k4 true)else(k4 (decide (64<(List.length a0.2:Int)))))))
def m_combinator_Valid_B2 (a0:(List ((List (List (Int×Int)))×(List (List UInt8))))×(List ((List UInt8)×(List Bool)×(List ((List Int)×Int×Int))))) (k1:Unit->Option Bool) (b:Int->Option Bool) (a:Int):Option Bool:=
  if a<(List.length a0.1:Int)then(need ((0:Int)≤a/\a<(List.length a0.1:Int)) (jn (λ(c:Bool)=>if c then(none)else(b (i64 (a+1)))) (λ k66=>if¬(List.length ((gi a0.1 a).2):Int)=(List.length ((gi a0.1 a).1):Int)then(k66 true)else(bnd1 (zea ((gi a0.1 a).2) m_combinator_Valid_1) (λ y68=>k66 y68)))))else(k1 ())
def m_combinator_Valid_L2 (a0:(List ((List (List (Int×Int)))×(List (List UInt8))))×(List ((List UInt8)×(List Bool)×(List ((List Int)×Int×Int))))) (k1:Unit->Option Bool):Nat->Int->Option Bool
  |0,_=>none
  |n+1,a=>m_combinator_Valid_B2 a0 k1 (m_combinator_Valid_L2 a0 k1 n) a
def m_combinator_Valid_B6 (a0:(List ((List (List (Int×Int)))×(List (List UInt8))))×(List ((List UInt8)×(List Bool)×(List ((List Int)×Int×Int))))) (k70:Unit->Option Bool) (b:Int->Option Bool) (a:Int):Option Bool:=
  if a<(List.length a0.2:Int)then(need ((0:Int)≤a/\a<(List.length a0.2:Int)) (jn (λ(c:Bool)=>if c then(none)else(b (i64 (a+1)))) (λ k286=>bnd1 (m_combinator_shape ((gi a0.2 a).1)) (λ y292=>if !y292 then(k286 true)else(bnd1 (m_procterm_Holes ((gi a0.2 a).1)) (λ y293=>bnd1 (zfo y293 (λ(x0:Int)=>zho x0 (List.length a0.1:Int))) (λ y294=>if y294 then(k286 true)else(bnd1 (m_combinator_alive ((gi a0.2 a).1) (List.length a0.1:Int)) (λ y295=>bnd1 (zgz ((gi a0.2 a).2.1) y295) (λ y296=>k286 (!y296)))))))))))else(k70 ())
def m_combinator_Valid_L6 (a0:(List ((List (List (Int×Int)))×(List (List UInt8))))×(List ((List UInt8)×(List Bool)×(List ((List Int)×Int×Int))))) (k70:Unit->Option Bool):Nat->Int->Option Bool
  |0,_=>none
  |n+1,a=>m_combinator_Valid_B6 a0 k70 (m_combinator_Valid_L6 a0 k70 n) a
def m_combinator_Valid (a0:(List ((List (List (Int×Int)))×(List (List UInt8))))×(List ((List UInt8)×(List Bool)×(List ((List Int)×Int×Int))))):Option Bool:=
  jn (λ(_:Unit)=>jn (λ(_:Unit)=>bnd1 (m_combinator_ruled a0) (λ y297=>some y297)) (λ k70=>m_combinator_Valid_L6 a0 k70 FU 0)) (λ k1=>m_combinator_Valid_L2 a0 k1 FU 0)
def m_combinator_Bare (a0:(List ((List (List (Int×Int)))×(List (List UInt8))))×(List ((List UInt8)×(List Bool)×(List ((List Int)×Int×Int))))):Option Bool:=
  none
def m_network_runs (a0:(List ((List (List (Int×Int)))×(List (List UInt8))))×(List ((List UInt8)×(List Bool)×(List ((List Int)×Int×Int))))):Option Bool:=
  jn (λ(a:Bool)=>some a) (λ k1=>bnd1 (m_combinator_Valid a0) (λ y4=>if y4 then(k1 true)else(bnd1 (m_combinator_Bare a0) (λ y5=>k1 y5))))
def m_network_start (a0:(List ((List (List (Int×Int)))×(List (List UInt8))))×(List ((List UInt8)×(List Bool)×(List ((List Int)×Int×Int))))):Option (List Int):=
  need ((0:Int)≤i64 ((List.length a0.1:Int)+1)/\(i64 ((List.length a0.1:Int)+1):Int)≤137438953472) (some (List.replicate (Int.toNat (i64 ((List.length a0.1:Int)+1))) (0:Int)))
def m_network_Start (a0:(List ((List (List (Int×Int)))×(List (List UInt8))))×(List ((List UInt8)×(List Bool)×(List ((List Int)×Int×Int))))):Option (List Int):=
  bnd1 (m_network_runs a0) (λ y1=>if !y1 then(none)else(bnd1 (m_network_start a0) (λ y2=>some y2)))
def m_network_state_B2 (a0:(List ((List (List (Int×Int)))×(List (List UInt8))))×(List ((List UInt8)×(List Bool)×(List ((List Int)×Int×Int))))) (a1:List Int) (k12:Unit->Option Bool) (b:Int->Option Bool) (a:Int):Option Bool:=
  if a<(List.length a0.1:Int)then(need ((0:Int)≤a/\a<(List.length a0.1:Int)) (jn (λ(c:Bool)=>if c then(none)else(b (i64 (a+1)))) (λ k341=>need ((0:Int)≤0/\0<(List.length a1:Int)) (need ((0:Int)≤gi a1 0/\(gi a1 0)<(List.length a0.2:Int)) (need ((0:Int)≤a/\a<(List.length ((gi a0.2 (gi a1 0)).2.1):Int)) (if gi ((gi a0.2 (gi a1 0)).2.1) a then(need ((0:Int)≤i64 (a+1)/\(i64 (a+1))<(List.length a1:Int)) (if(gi a1 (i64 (a+1)))<0 then(k341 true)else(need ((0:Int)≤i64 (a+1)/\(i64 (a+1))<(List.length a1:Int)) (if(List.length ((gi a0.1 a).1):Int)≤(gi a1 (i64 (a+1)))then(k341 true)else(need ((0:Int)≤0/\0<(List.length a1:Int)) (need ((0:Int)≤gi a1 0/\(gi a1 0)<(List.length a0.2:Int)) (need ((0:Int)≤a/\a<(List.length ((gi a0.2 (gi a1 0)).2.1):Int)) (if !(gi ((gi a0.2 (gi a1 0)).2.1) a)then(need ((0:Int)≤i64 (a+1)/\(i64 (a+1))<(List.length a1:Int)) (k341 (decide (¬(gi a1 (i64 (a+1)))=(-1)))))else(k341 false)))))))))else(need ((0:Int)≤0/\0<(List.length a1:Int)) (need ((0:Int)≤gi a1 0/\(gi a1 0)<(List.length a0.2:Int)) (need ((0:Int)≤a/\a<(List.length ((gi a0.2 (gi a1 0)).2.1):Int)) (if !(gi ((gi a0.2 (gi a1 0)).2.1) a)then(need ((0:Int)≤i64 (a+1)/\(i64 (a+1))<(List.length a1:Int)) (k341 (decide (¬(gi a1 (i64 (a+1)))=(-1)))))else(k341 false)))))))))))else(k12 ())
def m_network_state_L2 (a0:(List ((List (List (Int×Int)))×(List (List UInt8))))×(List ((List UInt8)×(List Bool)×(List ((List Int)×Int×Int))))) (a1:List Int) (k12:Unit->Option Bool):Nat->Int->Option Bool
  |0,_=>none
  |n+1,a=>m_network_state_B2 a0 a1 k12 (m_network_state_L2 a0 a1 k12 n) a
def m_network_state (a0:(List ((List (List (Int×Int)))×(List (List UInt8))))×(List ((List UInt8)×(List Bool)×(List ((List Int)×Int×Int))))) (a1:List Int):Option Bool:=
  jn (λ(a:Bool)=>if a then(none)else(jn (λ(_:Unit)=>some true) (λ k12=>m_network_state_L2 a0 a1 k12 FU 0))) (λ k7=>if¬(List.length a1:Int)=(i64 ((List.length a0.1:Int)+1))then(k7 true)else(need ((0:Int)≤0/\0<(List.length a1:Int)) (if(gi a1 0)<0 then(k7 true)else(need ((0:Int)≤0/\0<(List.length a1:Int)) (k7 (decide ((List.length a0.2:Int)≤(gi a1 0))))))))
def zhn (a0:(List ((List (List (Int×Int)))×(List (List UInt8))))×(List ((List UInt8)×(List Bool)×(List ((List Int)×Int×Int))))) (a1:List Int):Option Bool:=
  jn (λ(a:Bool)=>some a) (λ k1=>bnd1 (m_network_runs a0) (λ y4=>if y4 then(bnd1 (m_network_state a0 a1) (λ y5=>k1 y5))else(k1 false)))
def m_network_choices_B14 (a0:(List ((List (List (Int×Int)))×(List (List UInt8))))×(List ((List UInt8)×(List Bool)×(List ((List Int)×Int×Int))))) (a1:List Int) (a3:Int) (y1:(List (List (Int×Int×Int)))) (b:Int) (k237:(List (List (Int×Int×Int)))->Option (List (List (Int×Int×Int)))) (d:(List (List (Int×Int×Int)))->Int->Option (List (List (Int×Int×Int)))) (c:List (List (Int×Int×Int))) (a:Int):Option (List (List (Int×Int×Int))):=
  if a<(List.length y1:Int)then(need ((0:Int)≤a/\a<(List.length y1:Int)) (need (List.length [(a3,(gi (gi ((gi a0.1 a3).1) (gi a1 (i64 (a3+1)))) b).1,(gi (gi ((gi a0.1 a3).1) (gi a1 (i64 (a3+1)))) b).2)]+List.length (gi y1 a)≤137438953472) (need (List.length c+List.length ([([(a3,(gi (gi ((gi a0.1 a3).1) (gi a1 (i64 (a3+1)))) b).1,(gi (gi ((gi a0.1 a3).1) (gi a1 (i64 (a3+1)))) b).2)]++(gi y1 a))])≤137438953472) (d (c++([([(a3,(gi (gi ((gi a0.1 a3).1) (gi a1 (i64 (a3+1)))) b).1,(gi (gi ((gi a0.1 a3).1) (gi a1 (i64 (a3+1)))) b).2)]++(gi y1 a))])) (i64 (a+1))))))else(k237 c)
def m_network_choices_L14 (a0:(List ((List (List (Int×Int)))×(List (List UInt8))))×(List ((List UInt8)×(List Bool)×(List ((List Int)×Int×Int))))) (a1:List Int) (a3:Int) (y1:(List (List (Int×Int×Int)))) (a:Int) (k237:(List (List (Int×Int×Int)))->Option (List (List (Int×Int×Int)))):Nat->(List (List (Int×Int×Int)))->Int->Option (List (List (Int×Int×Int)))
  |0,_,_=>none
  |n+1,b,c=>m_network_choices_B14 a0 a1 a3 y1 a k237 (m_network_choices_L14 a0 a1 a3 y1 a k237 n) b c
def m_network_choices_B8 (a0:(List ((List (List (Int×Int)))×(List (List UInt8))))×(List ((List UInt8)×(List Bool)×(List ((List Int)×Int×Int))))) (a1:List Int) (a2:(List Int)×Int×Int) (a3:Int) (y1:(List (List (Int×Int×Int)))) (k4:(List (List (Int×Int×Int)))->Option (List (List (Int×Int×Int)))) (c:(List (List (Int×Int×Int)))->Int->Option (List (List (Int×Int×Int)))) (b:List (List (Int×Int×Int))) (a:Int):Option (List (List (Int×Int×Int))):=
  if a<(List.length (gi ((gi a0.1 a3).1) (gi a1 (i64 (a3+1)))):Int)then(jn (λ(d:List (List (Int×Int×Int)))=>c d (i64 (a+1))) (λ k237=>need ((0:Int)≤a/\a<(List.length (gi ((gi a0.1 a3).1) (gi a1 (i64 (a3+1)))):Int)) (need ((0:Int)≤a3/\a3<(List.length a2.1:Int)) (if¬((gi (gi ((gi a0.1 a3).1) (gi a1 (i64 (a3+1)))) a).1)=(gi a2.1 a3)then(k237 b)else(m_network_choices_L14 a0 a1 a3 y1 a k237 FU b 0)))))else(k4 b)
def m_network_choices_L8 (a0:(List ((List (List (Int×Int)))×(List (List UInt8))))×(List ((List UInt8)×(List Bool)×(List ((List Int)×Int×Int))))) (a1:List Int) (a2:(List Int)×Int×Int) (a3:Int) (y1:(List (List (Int×Int×Int)))) (k4:(List (List (Int×Int×Int)))->Option (List (List (Int×Int×Int)))):Nat->(List (List (Int×Int×Int)))->Int->Option (List (List (Int×Int×Int)))
  |0,_,_=>none
  |n+1,a,b=>m_network_choices_B8 a0 a1 a2 a3 y1 k4 (m_network_choices_L8 a0 a1 a2 a3 y1 k4 n) a b
def m_network_choices_F (a:((List ((List (List (Int×Int)))×(List (List UInt8))))×(List ((List UInt8)×(List Bool)×(List ((List Int)×Int×Int)))))->(List Int)->((List Int)×Int×Int)->Int->Option (List (List (Int×Int×Int)))) (a0:(List ((List (List (Int×Int)))×(List (List UInt8))))×(List ((List UInt8)×(List Bool)×(List ((List Int)×Int×Int))))) (a1:List Int) (a2:(List Int)×Int×Int) (a3:Int):Option (List (List (Int×Int×Int))):=
  if a3=(List.length a2.1:Int)then(some ([([]:List (Int×Int×Int))]))else(bnd1 (a a0 a1 a2 (i64 (a3+1))) (λ y1=>need ((0:Int)≤a3/\a3<(List.length a2.1:Int)) (if(gi a2.1 a3)=(-1)then(some y1)else(need ((0:Int)≤i64 (a3+1)/\(i64 (a3+1))<(List.length a1:Int)) (if(gi a1 (i64 (a3+1)))<0 then(none)else(jn (λ(b:List (List (Int×Int×Int)))=>some b) (λ k4=>need ((0:Int)≤a3/\a3<(List.length a0.1:Int)) (need ((0:Int)≤i64 (a3+1)/\(i64 (a3+1))<(List.length a1:Int)) (need ((0:Int)≤gi a1 (i64 (a3+1))/\(gi a1 (i64 (a3+1)))<(List.length ((gi a0.1 a3).1):Int)) (m_network_choices_L8 a0 a1 a2 a3 y1 k4 FU [] 0))))))))))
def m_network_choices_S:Nat->(((List ((List (List (Int×Int)))×(List (List UInt8))))×(List ((List UInt8)×(List Bool)×(List ((List Int)×Int×Int)))))->(List Int)->((List Int)×Int×Int)->Int->Option (List (List (Int×Int×Int))))
  |0=>(λ _ _ _ _=>none)
  |n+1=>m_network_choices_F (m_network_choices_S n)
def m_network_choices (a0:(List ((List (List (Int×Int)))×(List (List UInt8))))×(List ((List UInt8)×(List Bool)×(List ((List Int)×Int×Int))))) (a1:List Int) (a2:(List Int)×Int×Int) (a3:Int):Option (List (List (Int×Int×Int))):=m_network_choices_S FU a0 a1 a2 a3
def zhq (a0:List Int):Option (List Int):=
  nilcD (a0=[]) (some []) (need (List.length ([]:List Int)+List.length a0≤137438953472) (some (([]:List Int)++a0)))
def zcp (a0:List (Int×Int×Int)) (a1:List (Int×Int×Int)) (a2:(Int×Int×Int)->(Int×Int×Int)->Option Int) (k1:Unit->Option Int) (b:Int->Option Int) (a:Int):Option Int:=
  if a<(List.length a0:Int)then(need ((0:Int)≤a/\a<(List.length a0:Int)) (if(List.length a1:Int)≤a then(some 1)else(need ((0:Int)≤a/\a<(List.length a1:Int)) (bnd1 (a2 ((gi a0 a).1,(gi a0 a).2.1,(gi a0 a).2.2) ((gi a1 a).1,(gi a1 a).2.1,(gi a1 a).2.2)) (λ y32=>if¬y32=0 then(some y32)else(b (i64 (a+1))))))))else(k1 ())
def zcq (a0:List (Int×Int×Int)) (a1:List (Int×Int×Int)) (a2:(Int×Int×Int)->(Int×Int×Int)->Option Int) (k1:Unit->Option Int):Nat->Int->Option Int
  |0,_=>none
  |n+1,a=>zcp a0 a1 a2 k1 (zcq a0 a1 a2 k1 n) a
def zcv (a0:List (Int×Int×Int)) (a1:List (Int×Int×Int)) (a2:(Int×Int×Int)->(Int×Int×Int)->Option Int):Option Int:=
  jn (λ(_:Unit)=>if(List.length a0:Int)<(List.length a1:Int)then(some (-1))else(some 0)) (λ k1=>zcq a0 a1 a2 k1 FU 0)
def m_network_compareMoves (a0:Int×Int×Int) (a1:Int×Int×Int):Option Int:=
  bnd1 (zep a0.1 a1.1) (λ y1=>bnd1 (zep a0.2.1 a1.2.1) (λ y2=>bnd1 (zep a0.2.2 a1.2.2) (λ y3=>bnd1 (m_cmp_Or_int [y1,y2,y3]) (λ y4=>some y4))))
def zdj (a0:Int×(List Int)×(List (Int×Int×Int))) (a1:Int×(List Int)×(List (Int×Int×Int))):Option Int:=
  bnd1 (zep a0.1 a1.1) (λ y1=>bnd1 (zfn a0.2.1 a1.2.1) (λ y2=>bnd1 (zcv a0.2.2 a1.2.2 m_network_compareMoves) (λ y3=>bnd1 (m_cmp_Or_int [y1,y2,y3]) (λ y4=>some y4))))
def zdv (a0:List (Int×(List Int)×(List (Int×Int×Int)))) (a1:(Int×(List Int)×(List (Int×Int×Int)))->(Int×(List Int)×(List (Int×Int×Int)))->Option Bool) (b:Int) (k838:(List (Int×(List Int)×(List (Int×Int×Int))))->Int->Option (List (Int×(List Int)×(List (Int×Int×Int))))) (e:(List (Int×(List Int)×(List (Int×Int×Int))))->Int->Int->Option (List (Int×(List Int)×(List (Int×Int×Int))))) (c:List (Int×(List Int)×(List (Int×Int×Int)))) (d:Int) (a:Int):Option (List (Int×(List Int)×(List (Int×Int×Int)))):=
  if a<((Int.toNat (List.length a0:Int) - Int.toNat b:Nat):Int)then(jn (λ(f:List (Int×(List Int)×(List (Int×Int×Int)))) (g:Int)=>e f g (i64 (a+1))) (λ k895=>need ((0:Int)≤b/\(0:Int)≤a/\a<(List.length a0:Int) - b/\(0:Int)≤(b+a)/\(b+a)<(List.length c:Int)) (need ((0:Int)≤b/\(0:Int)≤i64 (a - 1)/\(i64 (a - 1))<(List.length a0:Int) - b/\(0:Int)≤(b+(i64 (a - 1)))/\(b+(i64 (a - 1)))<(List.length c:Int)) (bnd1 (a1 (gi c (b+a)) (gi c (b+(i64 (a - 1))))) (λ y903=>if !y903 then(need ((0:Int)≤b/\(0:Int)≤a/\a<(List.length a0:Int) - b/\(0:Int)≤(b+a)/\(b+a)<(List.length c:Int)) (need ((0:Int)≤d/\d<(List.length c:Int)) (k895 (List.set c (Int.toNat d) (gi c (b+a))) (i64 (d+1)))))else(k895 c d))))))else(k838 c d)
def zdy (a0:List (Int×(List Int)×(List (Int×Int×Int)))) (a1:(Int×(List Int)×(List (Int×Int×Int)))->(Int×(List Int)×(List (Int×Int×Int)))->Option Bool) (a:Int) (k838:(List (Int×(List Int)×(List (Int×Int×Int))))->Int->Option (List (Int×(List Int)×(List (Int×Int×Int))))):Nat->(List (Int×(List Int)×(List (Int×Int×Int))))->Int->Int->Option (List (Int×(List Int)×(List (Int×Int×Int))))
  |0,_,_,_=>none
  |n+1,b,c,d=>zdv a0 a1 a k838 (zdy a0 a1 a k838 n) b c d
def zdw (a0:List (Int×(List Int)×(List (Int×Int×Int)))) (a1:(Int×(List Int)×(List (Int×Int×Int)))->(Int×(List Int)×(List (Int×Int×Int)))->Option Bool) (k1:Unit->Option (List (Int×(List Int)×(List (Int×Int×Int))))) (d:Int->Option (List (Int×(List Int)×(List (Int×Int×Int))))) (b:Int):Option (List (Int×(List Int)×(List (Int×Int×Int)))):=
  if b<(List.length a0:Int)then(jn (λ(_:Unit)=>d (i64 (b+1))) (λ k758=>need ((0:Int)≤b/\b<(List.length a0:Int)) (need ((0:Int)≤i64 (b - 1)/\(i64 (b - 1))<(List.length a0:Int)) (bnd1 (a1 (gi a0 b) (gi a0 (i64 (b - 1)))) (λ y836=>if y836 then(need ((0:Int)≤b/\b≤(List.length a0:Int)/\(List.length a0:Int)≤(List.length a0:Int)) (jn (λ(c:List (Int×(List Int)×(List (Int×Int×Int)))) (a:Int)=>need ((0:Int)≤a/\a≤(List.length c:Int)/\(List.length c:Int)≤(List.length c:Int)) (need (0≤a/\a≤(List.length (List.take (Int.toNat a) c++List.replicate (Int.toNat (List.length c:Int) - Int.toNat a) ((0,[],[]):Int×(List Int)×(List (Int×Int×Int)))++List.drop (Int.toNat a+(Int.toNat (List.length c:Int) - Int.toNat a)) c):Int)) (some (List.take (Int.toNat a) (List.take (Int.toNat a) c++List.replicate (Int.toNat (List.length c:Int) - Int.toNat a) ((0,[],[]):Int×(List Int)×(List (Int×Int×Int)))++List.drop (Int.toNat a+(Int.toNat (List.length c:Int) - Int.toNat a)) c))))) (λ k838=>zdy a0 a1 b k838 FU a0 b 1)))else(k758 ()))))))else(k1 ())
def zdx (a0:List (Int×(List Int)×(List (Int×Int×Int)))) (a1:(Int×(List Int)×(List (Int×Int×Int)))->(Int×(List Int)×(List (Int×Int×Int)))->Option Bool) (k1:Unit->Option (List (Int×(List Int)×(List (Int×Int×Int))))):Nat->Int->Option (List (Int×(List Int)×(List (Int×Int×Int))))
  |0,_=>none
  |n+1,a=>zdw a0 a1 k1 (zdx a0 a1 k1 n) a
def zci (a0:List (Int×(List Int)×(List (Int×Int×Int)))) (a1:(Int×(List Int)×(List (Int×Int×Int)))->(Int×(List Int)×(List (Int×Int×Int)))->Option Bool):Option (List (Int×(List Int)×(List (Int×Int×Int)))):=
  if(List.length a0:Int)<2 then(some a0)else(jn (λ(_:Unit)=>some a0) (λ k1=>zdx a0 a1 k1 FU 1))
def zgp (a0:Int×(List Int)×(List (Int×Int×Int))) (a1:Int×(List Int)×(List (Int×Int×Int))):Option Bool:=
  bnd1 (zdj a0 a1) (λ y1=>some (decide (y1=0)))
def zdc (a0:List (Int×(List Int)×(List (Int×Int×Int)))):Option (List (Int×(List Int)×(List (Int×Int×Int)))):=
  need (0≤(List.length a0:Int)) (some (List.take (Int.toNat (List.length a0:Int)) a0))
def m_network_steps_B300 (y3392:(List (List (Int×Int×Int)))) (b:Int) (k3650:(List Int)->Option (List (Int×(List Int)×(List (Int×Int×Int))))) (d:(List Int)->Int->Option (List (Int×(List Int)×(List (Int×Int×Int))))) (c:List Int) (a:Int):Option (List (Int×(List Int)×(List (Int×Int×Int)))):=
  if a<(List.length (gi y3392 b):Int)then(need ((0:Int)≤a/\a<(List.length (gi y3392 b):Int)) (need ((0:Int)≤i64 (((gi (gi y3392 b) a).1)+1)/\(i64 (((gi (gi y3392 b) a).1)+1))<(List.length c:Int)) (d (List.set c (Int.toNat (i64 (((gi (gi y3392 b) a).1)+1))) ((gi (gi y3392 b) a).2.2)) (i64 (a+1)))))else(k3650 c)
def m_network_steps_L300 (y3392:(List (List (Int×Int×Int)))) (a:Int) (k3650:(List Int)->Option (List (Int×(List Int)×(List (Int×Int×Int))))):Nat->(List Int)->Int->Option (List (Int×(List Int)×(List (Int×Int×Int))))
  |0,_,_=>none
  |n+1,b,c=>m_network_steps_B300 y3392 a k3650 (m_network_steps_L300 y3392 a k3650 n) b c
def m_network_steps_B302 (a0:(List ((List (List (Int×Int)))×(List (List UInt8))))×(List ((List UInt8)×(List Bool)×(List ((List Int)×Int×Int))))) (a1:List Int) (b:Int) (k3670:Unit->Option (List (Int×(List Int)×(List (Int×Int×Int))))) (c:Int->Option (List (Int×(List Int)×(List (Int×Int×Int))))) (a:Int):Option (List (Int×(List Int)×(List (Int×Int×Int)))):=
  if a<(List.length ((gi a0.2 ((gi ((gi a0.2 (gi a1 0)).2.2) b).2.2)).2.1):Int)then(need ((0:Int)≤a/\a<(List.length ((gi a0.2 ((gi ((gi a0.2 (gi a1 0)).2.2) b).2.2)).2.1):Int)) (if !(gi ((gi a0.2 ((gi ((gi a0.2 (gi a1 0)).2.2) b).2.2)).2.1) a)then(none)else(c (i64 (a+1)))))else(k3670 ())
def m_network_steps_L302 (a0:(List ((List (List (Int×Int)))×(List (List UInt8))))×(List ((List UInt8)×(List Bool)×(List ((List Int)×Int×Int))))) (a1:List Int) (a:Int) (k3670:Unit->Option (List (Int×(List Int)×(List (Int×Int×Int))))):Nat->Int->Option (List (Int×(List Int)×(List (Int×Int×Int))))
  |0,_=>none
  |n+1,b=>m_network_steps_B302 a0 a1 a k3670 (m_network_steps_L302 a0 a1 a k3670 n) b
def m_network_steps_B278 (a0:(List ((List (List (Int×Int)))×(List (List UInt8))))×(List ((List UInt8)×(List Bool)×(List ((List Int)×Int×Int))))) (a1:List Int) (b:Int) (k3082:(List (Int×(List Int)×(List (Int×Int×Int))))->Option (List (Int×(List Int)×(List (Int×Int×Int))))) (y3392:(List (List (Int×Int×Int)))) (e:(List (Int×(List Int)×(List (Int×Int×Int))))->Int->Option (List (Int×(List Int)×(List (Int×Int×Int))))) (c:List (Int×(List Int)×(List (Int×Int×Int)))) (a:Int):Option (List (Int×(List Int)×(List (Int×Int×Int)))):=
  if a<(List.length y3392:Int)then(jn (λ(f:List (Int×(List Int)×(List (Int×Int×Int))))=>e f (i64 (a+1))) (λ k3595=>need ((0:Int)≤a/\a<(List.length y3392:Int)) (bnd1 (zhq a1) (λ y3647=>need ((0:Int)≤0/\0<(List.length y3647:Int)) (jn (λ(d:List Int)=>jn (λ(_:Unit)=>need (List.length c+List.length [((gi ((gi a0.2 (gi a1 0)).2.2) b).2.1,d,gi y3392 a)]≤137438953472) (k3595 (c++[((gi ((gi a0.2 (gi a1 0)).2.2) b).2.1,d,gi y3392 a)]))) (λ k3670=>need ((0:Int)≤(gi ((gi a0.2 (gi a1 0)).2.2) b).2.2/\((gi ((gi a0.2 (gi a1 0)).2.2) b).2.2)<(List.length a0.2:Int)) (m_network_steps_L302 a0 a1 b k3670 FU 0))) (λ k3650=>m_network_steps_L300 y3392 a k3650 FU (List.set y3647 (Int.toNat 0) ((gi ((gi a0.2 (gi a1 0)).2.2) b).2.2)) 0))))))else(k3082 c)
def m_network_steps_L278 (a0:(List ((List (List (Int×Int)))×(List (List UInt8))))×(List ((List UInt8)×(List Bool)×(List ((List Int)×Int×Int))))) (a1:List Int) (a:Int) (k3082:(List (Int×(List Int)×(List (Int×Int×Int))))->Option (List (Int×(List Int)×(List (Int×Int×Int))))) (y3392:(List (List (Int×Int×Int)))):Nat->(List (Int×(List Int)×(List (Int×Int×Int))))->Int->Option (List (Int×(List Int)×(List (Int×Int×Int))))
  |0,_,_=>none
  |n+1,b,c=>m_network_steps_B278 a0 a1 a k3082 y3392 (m_network_steps_L278 a0 a1 a k3082 y3392 n) b c
def m_network_steps_B152 (a0:(List ((List (List (Int×Int)))×(List (List UInt8))))×(List ((List UInt8)×(List Bool)×(List ((List Int)×Int×Int))))) (a1:List Int) (k1:(List (Int×(List Int)×(List (Int×Int×Int))))->Option (List (Int×(List Int)×(List (Int×Int×Int))))) (c:(List (Int×(List Int)×(List (Int×Int×Int))))->Int->Option (List (Int×(List Int)×(List (Int×Int×Int))))) (b:List (Int×(List Int)×(List (Int×Int×Int)))) (a:Int):Option (List (Int×(List Int)×(List (Int×Int×Int)))):=
  if a<(List.length ((gi a0.2 (gi a1 0)).2.2):Int)then(jn (λ(d:List (Int×(List Int)×(List (Int×Int×Int))))=>c d (i64 (a+1))) (λ k3082=>need ((0:Int)≤a/\a<(List.length ((gi a0.2 (gi a1 0)).2.2):Int)) (bnd1 (m_network_choices a0 a1 ((gi ((gi a0.2 (gi a1 0)).2.2) a).1,(gi ((gi a0.2 (gi a1 0)).2.2) a).2.1,(gi ((gi a0.2 (gi a1 0)).2.2) a).2.2) 0) (λ y3392=>m_network_steps_L278 a0 a1 a k3082 y3392 FU b 0))))else(k1 b)
def zhp (a0:(List ((List (List (Int×Int)))×(List (List UInt8))))×(List ((List UInt8)×(List Bool)×(List ((List Int)×Int×Int))))) (a1:List Int) (k1:(List (Int×(List Int)×(List (Int×Int×Int))))->Option (List (Int×(List Int)×(List (Int×Int×Int))))):Nat->(List (Int×(List Int)×(List (Int×Int×Int))))->Int->Option (List (Int×(List Int)×(List (Int×Int×Int))))
  |0,_,_=>none
  |n+1,a,b=>m_network_steps_B152 a0 a1 k1 (zhp a0 a1 k1 n) a b
def m_network_steps (a0:(List ((List (List (Int×Int)))×(List (List UInt8))))×(List ((List UInt8)×(List Bool)×(List ((List Int)×Int×Int))))) (a1:List Int):Option (List (Int×(List Int)×(List (Int×Int×Int)))):=
  jn (λ(a:List (Int×(List Int)×(List (Int×Int×Int))))=>bnd1 (m_sortR zdj a) (λ y3694=>bnd1 (zci y3694 zgp) (λ y3695=>bnd1 (zdc y3695) (λ y3696=>some y3696)))) (λ k1=>need ((0:Int)≤0/\0<(List.length a1:Int)) (need ((0:Int)≤gi a1 0/\(gi a1 0)<(List.length a0.2:Int)) (zhp a0 a1 k1 FU [] 0)))
def m_network_Steps (a0:(List ((List (List (Int×Int)))×(List (List UInt8))))×(List ((List UInt8)×(List Bool)×(List ((List Int)×Int×Int))))) (a1:List Int):Option (List (Int×(List Int)×(List (Int×Int×Int)))):=
  bnd1 (zhn a0 a1) (λ y1=>if !y1 then(none)else(bnd1 (m_network_steps a0 a1) (λ y2=>some y2)))
def zgt (a0:List Int) (a1:List Int) (k1:Unit->Option Bool) (b:Int->Option Bool) (a:Int):Option Bool:=
  if a<(List.length a0:Int)then(need ((0:Int)≤a/\a<(List.length a0:Int)) (need ((0:Int)≤a/\a<(List.length a1:Int)) (if¬(gi a0 a)=(gi a1 a)then(some false)else(b (i64 (a+1))))))else(k1 ())
def zfc (a0:List Int) (a1:List Int) (k1:Unit->Option Bool):Nat->Int->Option Bool
  |0,_=>none
  |n+1,a=>zgt a0 a1 k1 (zfc a0 a1 k1 n) a
def zga (a0:List Int) (a1:List Int):Option Bool:=
  if¬(List.length a0:Int)=(List.length a1:Int)then(some false)else(jn (λ(_:Unit)=>some true) (λ k1=>zfc a0 a1 k1 FU 0))
def m_law22_awake  :Option Bool:=
  bnd1 (m_gen_New ([]:List Int)) (λ y1=>bnd1 (m_gen_Choices_Core (y1.1,y1.2) 1 true) (λ y3=>bnd1 (m_law22_prefix 2) (λ y4=>bnd1 (m_law22_prefix 2) (λ y5=>bnd1 (m_ref16_Guarded 16 y4 [2] y5) (λ y6=>bnd1 (m_ref21_Compile y3.1 y6 9) (λ y7=>bnd1 (m_network_Start (y7.1.1,y7.1.2)) (λ y9=>bnd1 (m_network_Steps (y7.1.1,y7.1.2) y9) (λ y10=>jn (λ(a:Bool)=>some a) (λ k11=>bnd1 (m_network_Start (y7.1.1,y7.1.2)) (λ y18=>bnd1 (zga y18 [0,0,0]) (λ y19=>if y19 then(if(List.length y10:Int)=1 then(need ((0:Int)≤0/\0<(List.length y10:Int)) (if((gi y10 0).1)=2 then(need ((0:Int)≤0/\0<(List.length y10:Int)) (if(List.length ((gi y10 0).2.2):Int)=2 then(need ((0:Int)≤0/\0<(List.length y10:Int)) (bnd1 (zga ((gi y10 0).2.1) [0,1,1]) (λ y23=>k11 y23)))else(k11 false)))else(k11 false)))else(k11 false))else(k11 false))))))))))))
def m_law22_NetworkKeys (a0:List Int) (a1:List Int):Option Bool:=
  jn (λ(a:Bool)=>some a) (λ k1=>bnd1 (m_law22_awake) (λ y12=>if y12 then(bnd1 (m_key a0) (λ y13=>bnd1 (m_key a1) (λ y14=>bnd1 (zga a0 a1) (λ y15=>if(decide (y13=y14))=y15 then(need (List.length a0≤137438953472) (need (List.length a0+List.length [0]≤137438953472) (bnd1 (m_key (a0++[0])) (λ y20=>bnd1 (m_key a0) (λ y21=>k1 (decide (¬y20=y21)))))))else(k1 false)))))else(k1 false)))
end
end Go.Proofs.YtohjfjmjnkglgaaGreatDoor
