import Derived.Test.YthfgmmmeplanbaaGreatDoorQ3
namespace Go.Proofs.YthfgmmmeplanbaaGreatDoor
open Go.RowKit
set_option linter.unusedVariables false
set_option linter.unusedSimpArgs false
theorem VB(a b:Nat)(ha:a<9223372036854775808)(hb:b<9223372036854775808):bits .andNot .i64 (a:Int) (b:Int)=((a^^^(a&&& b):Nat):Int):=by
 have h1:BitVec.ofInt 64 (a:Int)=BitVec.ofNat 64 a:=BitVec.ofInt_natCast ..
 have h2:BitVec.ofInt 64 (b:Int)=BitVec.ofNat 64 b:=BitVec.ofInt_natCast ..
 have e:bits .andNot .i64 (a:Int) (b:Int)=IntKind.i64.wrap ((BitVec.ofNat 64 a&&& ~~~ BitVec.ofNat 64 b).toNat:Int):=by
  rw[←h1,←h2];rfl
 have hand:a&&& b<2^63:=Nat.lt_of_le_of_lt Nat.and_le_left (by omega)
 have hx:a^^^(a&&& b)<2^63:=Nat.xor_lt_two_pow (by omega) hand
 have h0:BitVec.ofNat 64 a&&& ~~~ BitVec.ofNat 64 b=BitVec.ofNat 64 (a^^^(a&&& b)):=by
  apply BitVec.eq_of_getLsbD_eq
  intro i hi
  simp only[BitVec.getLsbD_and,BitVec.getLsbD_not,BitVec.getLsbD_ofNat,hi,decide_true,Bool.true_and,Nat.testBit_xor,Nat.testBit_and]
  cases a.testBit i<;>cases b.testBit i<;>rfl
 have hn:(BitVec.ofNat 64 (a^^^(a&&& b))).toNat=a^^^(a&&& b):=by rw[BitVec.toNat_ofNat];exact Nat.mod_eq_of_lt (by omega)
 rw[e,h0,hn,wrap_i64]<;>omega
def iq(d n:Nat)(b:Bool):Nat:=if b then d|||2^n else d^^^(d&&& 2^n)
theorem Ak {d n:Nat}(b:Bool)(hd:d<4294967296)(hn:n<32):iq d n b<4294967296:=by
 have hp:2^n<2^32:=Nat.pow_lt_pow_right (by omega) hn
 unfold iq
 split
 ·exact M0 d n hd hn
 ·exact Nat.xor_lt_two_pow (n:=32) (by omega) (Nat.lt_of_le_of_lt Nat.and_le_left (by omega))
theorem aak(d n:Nat)(b:Bool)(hd:d<4294967296)(hn:n<32):bg ((d:Int),(n:Int),b,())=some (((iq d n b:Nat):Int),(0:Int),()):=by
 have hp:2^n<2^32:=Nat.pow_lt_pow_right (by omega) hn
 have h1:aN (d:Int) 0 4294967295=true:=aO.2 ⟨by omega,by omega⟩
 have h2:aN (n:Int) 0 31=true:=aO.2 ⟨by omega,by omega⟩
 have hneg:¬((n:Int)<0):=by omega
 have hs:=wI n hn
 unfold bg pm nH
 simp only[l0,h1,h2,Bool.not_true]
 cases b with
 |true=>
  simp only[if_neg hneg,hs,RA d (2^n) (by omega) (by omega)]
  rfl
 |false=>
  unfold Ea
  simp only[if_neg hneg,hs,VB d (2^n) (by omega) (by omega)]
  rfl
theorem aal(d n:Nat)(b:Bool)(hd:d<4294967296)(hn:n<32):ix ((d:Int),(n:Int),b,())=some (((iq d n b:Nat):Int),()):=by
 have hp:2^n<2^32:=Nat.pow_lt_pow_right (by omega) hn
 have hu:IntKind.u64.wrap (n:Int)=(n:Int):=Lf (by omega)
 have hneg:¬((n:Int)<0):=by omega
 have hs:=wI n hn
 have hh:lx ((d:Int),(n:Int),())=some (mP d n,()):=Ph d n hd hn
 rw[Af]at hh
 have hx:=tA d (2^n) (by omega) (by omega)
 unfold ix iq
 simp only[hh,hu,if_neg hneg,hs,hx]
 cases ht:d.testBit n<;>cases b<;>simp only[beq_self_eq_true,Bool.false_eq_true,if_false,if_true,show(false==true)=false from rfl,show(true==false)=false from rfl]<;>congr 3<;>apply Nat.eq_of_testBit_eq<;>intro i<;>simp only[Nat.testBit_xor,Nat.testBit_and,Nat.testBit_or,Nat.testBit_two_pow]<;>by_cases hi:n=i
 all_goals first|(subst hi;simp[ht];done)|(simp[hi];done)
def qi(st:ab.T)(dur slots bR:Int):ab.T:=match(IntKind.i64.wrap (st.2.2.2.1+(1:Int))==slots)with
 |true=>(Int.tmod (IntKind.i64.wrap (st.1+dur)) 65536,st.2.1,Int.tmod (IntKind.i64.wrap (st.2.2.1+(1:Int))) bR,(0:Int),st.2.2.2.2.1,())
 |false=>(Int.tmod (IntKind.i64.wrap (st.1+dur)) 65536,st.2.1,st.2.2.1,IntKind.i64.wrap (st.2.2.2.1+(1:Int)),st.2.2.2.2.1,())
theorem aaN(st:ab.T)(dur slots bR:Int)(hr:1≤bR):lD (st,dur,slots,bR,())=some (qi st dur slots bR,()):=by
 have h0:¬bR=0:=by omega
 unfold lD qi
 simp only[if_neg h0]
 cases IntKind.i64.wrap (st.2.2.2.1+(1:Int))==slots<;>rfl
theorem aaO(st:ab.T)(dur slots bR:Int)(hst:bp st=true)(hd:0≤dur∧dur≤65535)(hs:1≤slots∧slots≤256)(hr:1≤bR∧bR≤16)(h1:st.2.2.2.1<slots)(h2:st.2.2.1<bR):gg (st,dur,slots,bR,())=some (qi st dur slots bR,(0:Int),()):=by
 have e0:e6 ((st.1,st.2.1,st.2.2.1,st.2.2.2.1,st.2.2.2.2.1,()),())=some (true,()):=by rw[←hst];exact EZ (st,())
 have i1:aN dur 0 65535=true:=aO.2 hd
 have i2:aN slots 1 256=true:=aO.2 hs
 have i3:aN bR 1 16=true:=aO.2 hr
 have h0:¬bR=0:=by omega
 have n1:¬st.2.2.2.1≥slots:=Int.not_le.2 h1
 have n2:¬st.2.2.1≥bR:=Int.not_le.2 h2
 unfold gg qi
 simp only[e0,l0,i1,i2,i3,Bool.not_true,decide_eq_false n1,decide_eq_false n2,if_neg h0]
 cases IntKind.i64.wrap (st.2.2.2.1+(1:Int))==slots<;>rfl
theorem Fe {m:ae.T}{st:ab.T}(h:aY m=true)(hb:aA m st=true):∃(a:Nat) (ha:a<m.2.2.1.length),st.2.1=(a:Int)∧0≤st.2.2.1∧st.2.2.1<m.2.2.1[a].1∧0≤st.2.2.2.1∧st.2.2.2.1<m.2.2.1[a].2.1∧(1≤m.2.2.1[a].1∧m.2.2.1[a].1≤16)∧(1≤m.2.2.1[a].2.1∧m.2.2.1[a].2.1≤256):=by
 obtain⟨_,hn,hm,hs,_⟩:=fC h
 have hg:=(df hm).2
 unfold aA at hb
 rw[Bool.and_eq_true]at hb
 obtain⟨a,b,c,d,ea,eb,ec,ed,ha,hb',hc',hd⟩:=vm hb.1
 have hb2:=hb.2
 rw[ea,eb,ec,ed]at hb2
 rw[Int.toNat_natCast]at hb2
 by_cases hal:a<m.2.2.1.length
 ·simp only[List.getElem?_eq_getElem hal,Bool.and_eq_true,decide_eq_true_eq]at hb2
  have hgi:=hg _ (List.getElem_mem hal)
  obtain⟨h1,h2,_⟩:=hb2
  exact⟨a,hal,ea,by rw[eb];exact Int.natCast_nonneg _,by rw[eb];exact h1,by rw[ec];exact Int.natCast_nonneg _,by rw[ec];exact h2,⟨hgi.1.1,Int.le_trans hgi.1.2 (by decide)⟩,⟨hgi.2.1,Int.le_trans hgi.2.2 (by decide)⟩⟩
 ·simp only[List.getElem?_eq_none (Nat.not_lt.1 hal)]at hb2
  cases hb2
def iP(st:ab.T)(d:Int):ab.T:=(st.1,st.2.1,st.2.2.1,st.2.2.2.1,d,())
def Ff(m:ae.T)(st:ab.T)(d:Int):ab.T:=match m.2.2.1[st.2.1.toNat]? with
 |none=>st
 |some v=>qi (iP st d) (bH m st).2.2.2.1 v.2.1 v.1
theorem vq {d:a7.T}(h:kr d=true):∃D:Nat,d.2.2.2.1=(D:Int)∧D≤1000:=by
 obtain⟨(a:Int),(k:Int),(n:Int),(t:Int),(c:Bool),⟨⟩⟩:=d
 unfold kr at h
 simp only[Bool.and_eq_true]at h
 obtain⟨_,h2,h3,_,h5⟩:=h
 have hsz:=vk h3
 have hbn:=Ad k n hsz.1 hsz.2
 have h5:=aO.1 h5
 have hc:vj k n=11+10*(kq k n+3):=rfl
 rw[hc]at h5
 generalize kq k n=bn at hbn h5
 have hw:IntKind.i64.wrap (11+10*(bn+3)+20)=11+10*(bn+3)+20:=by rw[wrap_i64]<;>omega
 rw[hw]at h5
 exact⟨t.toNat,(Int.toNat_of_nonneg (show(0:Int)≤t by omega)).symm,by omega⟩
theorem NW(m:ae.T)(st:ab.T)(d:Nat)(h:aY m=true)(hb:aA m st=true)(hd:d<4294967296):
  jZ (m,iP st (d:Int),())=some (Ff m st (d:Int),())∧be (m,iP st (d:Int),())=some (Ff m st (d:Int),()):=by
 obtain⟨a,ha,ea,b0,b1,c0,c1,hr,hs⟩:=Fe h hb
 obtain⟨q1,q2,q3⟩:=d5 m st h hb
 obtain⟨D,hD,hD2⟩:=vq q3
 have q1:cn (m,iP st (d:Int),())=some (bH m st,()):=q1
 have q2:ay (m,iP st (d:Int),())=some (bH m st,()):=q2
 have hst:bp (iP st (d:Int))=true:=by
  have h0:=ow hb
  unfold bp at h0 ⊢
  simp only[Bool.and_eq_true]at h0 ⊢
  exact⟨h0.1,aO.2 ⟨by show(0:Int)≤(d:Int);omega,by show(d:Int)≤4294967295;omega⟩⟩
 have hi:au m.2.2.1 st.2.1=some m.2.2.1[a]:=by rw[ea];exact am ha
 have hn:Ff m st (d:Int)=qi (iP st (d:Int)) (D:Int) m.2.2.1[a].2.1 m.2.2.1[a].1:=by
  unfold Ff
  rw[ea,Int.toNat_natCast,List.getElem?_eq_getElem ha,hD]
 have a1:=aaN (iP st (d:Int)) (D:Int) m.2.2.1[a].2.1 m.2.2.1[a].1 hr.1
 have a2:=aaO (iP st (d:Int)) (D:Int) m.2.2.1[a].2.1 m.2.2.1[a].1 hst ⟨by omega,by omega⟩ hs hr c1 b1
 have e1:jZ (m,iP st (d:Int),())=aa (au m.2.2.1 st.2.1) fun v1=>aa (au m.2.2.1 st.2.1) fun v2=>match cn (m,iP st (d:Int),())with
  |none=>none
  |some v3=>match lD (iP st (d:Int),v3.1.2.2.2.1,v1.2.1,v2.1,())with
   |none=>none
   |some v4=>some (v4.1,()):=rfl
 have e2:be (m,iP st (d:Int),())=aa (au m.2.2.1 st.2.1) fun v1=>bf (match ay (m,iP st (d:Int),())with
  |none=>none
  |some v2=>ba (match gg (iP st (d:Int),v2.1.2.2.2.1,v1.2.1,v1.1,())with
   |none=>none
   |some v3=>some (v3.1,()))) (match ay (m,iP st (d:Int),())with
  |none=>none
  |some v2=>match gg (iP st (d:Int),v2.1.2.2.2.1,v1.2.1,v1.1,())with
   |none=>none
   |some v3=>some (v3.1,())):=rfl
 rw[e1,e2,hi,q1,q2]
 simp only[aa,hD,a1,a2,dZ,cJ,hn]
 exact⟨trivial,trivial⟩
end Go.Proofs.YthfgmmmeplanbaaGreatDoor
namespace Go.Proofs.YthfgmmmeplanbaaGreatDoor
open Go.RowKit
set_option linter.unusedVariables false
set_option linter.unusedSimpArgs false
theorem nb {b:Bool}(h:b=false):¬b=true:=by rw[h];decide
def bE(m:ae.T)(st:ab.T)(fill req:Int):aL.T:=((bH m st).2.1,req,(if((bH m st).2.1 != (0:Int))=true then st else dB),List.replicate (bH m st).2.2.1.toNat fill,())
theorem EH {d:a7.T}(h:kr d=true):∃k:Nat,d.2.2.1=(k:Int)∧k≤1000:=by
 unfold kr at h
 simp only[Bool.and_eq_true]at h
 have hsz:=vk h.2.2.1
 obtain⟨z0,z1⟩:=hsz
 have e:((d.2.2.1.toNat:Nat):Int)=d.2.2.1:=Int.toNat_of_nonneg z0
 have h2:((d.2.2.1.toNat:Nat):Int)≤1000:=by rw[e];exact z1
 exact⟨d.2.2.1.toNat,e.symm,by omega⟩
theorem Al {m:ae.T}{st:ab.T}(h:aY m=true)(hb:aA m st=true)(fill req:Int):(bE m st fill req).2.2.2.1.length≤1000:=by
 obtain⟨_,_,hq⟩:=d5 m st h hb
 obtain⟨k,hk,hk2⟩:=EH hq
 show(List.replicate (bH m st).2.2.1.toNat fill).length≤1000
 rw[hk,List.length_replicate]
 omega
theorem RO(m:ae.T)(st:ab.T)(fill req:Int)(h:aY m=true)(hb:aA m st=true):sU (m,st,fill,req,())=some (bE m st fill req,()):=by
 obtain⟨hd,_,hq⟩:=d5 m st h hb
 obtain⟨k,hk,hk2⟩:=EH hq
 have he:=tC k fill (by omega)
 have hst:∀z:Int,dS (z,())=some ((z != (0:Int)),()):=fun z=>rfl
 unfold sU bE
 simp only[hd,hk,he,hst,Int.toNat_natCast,dZ,cJ]
 cases ((bH m st).2.1 != (0:Int))<;>rfl
theorem Uh(q:Int)(m0:ae.T)(st0:ab.T)(z:aL.T)(a b:Int)(s:ab.T)(n:Nat)(hn:n≤1000):∀(k i:Nat) (l:List Int),i+k=n→l.length=n→(∀j (hj:j<l.length),j<i→l[j]=q)→
  ac dY (q,m0,st0,z,(a,b,s,l,()),(n:Int),(i:Int),())=some (.inl (m0,st0,z,(a,b,s,List.replicate n q,()),()))
 |0,i,l,hi,hl,hq=>by
  have hi:i=n:=by omega
  subst hi
  have e:l=List.replicate i q:=by
   apply List.ext_getElem
   ·rw[hl,List.length_replicate]
   ·intro j h1 h2
    rw[hq j h1 (by omega),List.getElem_replicate]
  subst e
  rw[an]
  simp only[dY,aJ]
 |k+1,i,l,hi,hl,hq=>by
  have hlt:i<l.length:=by omega
  have hlt2:i<n:=by omega
  have ih:=Uh q m0 st0 z a b s n hn k (i+1) (l.set i q) (by omega) (by rw[List.length_set];exact hl) (fun j hj h1=>by
   rw[List.getElem_set]
   split
   ·rfl
   ·exact hq j (by simpa using hj) (by omega))
  have hnx:IntKind.i64.wrap ((i:Int)+1)=((i+1:Nat):Int):=by rw[wrap_i64]<;>omega
  have hget:l[i]? =some l[i]:=List.getElem?_eq_getElem hlt
  rw[an]
  simp only[dY,aK hlt2,am hlt,aa,Int.toNat_natCast,hget,hnx]
  exact ih
theorem M8(m:ae.T)(st:ab.T)(hz:bZ m):dW (m,st,())=some ((match aY m with|false=>1|true=>match aA m st with|false=>2|true=>0:Int),()):=by
 have hM:km (m,())=_:=RC m hz
 have e1:dW (m,st,())=match km (m,())with
  |none=>none
  |some v1=>match(!v1.1)with
   |true=>some ((1:Int),())
   |false=>match lM (m,st,())with
    |none=>none
    |some v2=>match(!v2.1)with
     |true=>some ((2:Int),())
     |false=>some ((0:Int),()):=rfl
 rw[e1,hM]
 rcases Bool.eq_false_or_eq_true (aY m)with h1|h1<;>simp only[h1,Bool.not_true,Bool.not_false]
 have hB:=Vr m st h1
 simp only[hB]
 rcases Bool.eq_false_or_eq_true (aA m st)with h2|h2<;>simp only[h2,Bool.not_true,Bool.not_false]
theorem Zj(m:ae.T)(st:ab.T)(hz:bZ m):vR (m,st,())=some ((match aY m with|false=>1|true=>match aA m st with|false=>2|true=>0:Int),()):=by
 have hM:p5 (m,())=_:=aab m hz
 have e1:vR (m,st,())=match p5 (m,())with
  |none=>none
  |some v1=>match(!v1.1)with
   |true=>some ((1:Int),())
   |false=>match lA (m,st,())with
    |none=>none
    |some v2=>match(!v2.1)with
     |true=>some ((2:Int),())
     |false=>some ((0:Int),()):=rfl
 rw[e1,hM]
 rcases Bool.eq_false_or_eq_true (aY m)with h1|h1<;>simp only[h1,Bool.not_true,Bool.not_false]
 have hB:=aaK m st h1
 simp only[hB]
 rcases Bool.eq_false_or_eq_true (aA m st)with h2|h2<;>simp only[h2,Bool.not_true,Bool.not_false]
theorem X8(d:a7.T)(st:ab.T)(k:Nat)(hk:d.2.2.1=(k:Int))(hk2:k≤1000):jQ (d,st,())=some ((d.2.1,(0:Int),(if(d.2.1 != (0:Int))=true then st else dB),List.replicate k (0:Int),()),()):=by
 have hst:∀z:Int,dV (z,())=some ((z != (0:Int)),()):=fun z=>rfl
 unfold jQ
 simp only[hst,hk,Int.toNat_natCast]
 have hk0:(0:Int)≤(k:Int)∧(k:Int)≤(k:Int):=⟨by omega,by omega⟩
 simp only[if_pos hk0]
 rw[aF (by omega),aF (by omega)]
 simp only[dZ,cJ]
 cases (d.2.1 != (0:Int))<;>rfl
theorem Lu(m:ae.T)(st:ab.T)(fill req:Int)(hz:bZ m)(h:aY m=true)(hb:aA m st=true)(hf:aN fill 0 255=true)(hq:aN req 0 7=true):
  s7 (m,st,fill,req,())=some (if cV m st (bE m st fill req)=true then(bE m st fill req,(0:Int),())else(d4,(5:Int),())):=by
 obtain⟨_,hd,hqd⟩:=d5 m st h hb
 obtain⟨k,hk,hk2⟩:=EH hqd
 have hl:=M8 m st hz
 rw[h,hb]at hl
 have he:=X8 (bH m st) st k hk hk2
 have hl9:=Uh fill m st d4 (bH m st).2.1 req (if((bH m st).2.1 != (0:Int))=true then st else dB) k hk2 k 0 (List.replicate k (0:Int)) (by omega) (by simp) (fun j hj h1=>by omega)
 have hfl:=Al h hb fill req
 have hs:=W8 m st (bE m st fill req) h hb (by omega)
 have hfr:bE m st fill req=((bH m st).2.1,req,(if((bH m st).2.1 != (0:Int))=true then st else dB),List.replicate k fill,()):=by
  unfold bE
  rw[hk,Int.toNat_natCast]
 rw[hfr]at hs ⊢
 have k0:((0:Int) != 0)=false:=rfl
 have hlen:((List.replicate k (0:Int)).length:Int)=(k:Int):=by rw[List.length_replicate]
 have hl9:ac dY (fill,m,st,((0:Int),(0:Int),((0:Int),(0:Int),(0:Int),(0:Int),(0:Int),()),([]:List Int),()),((bH m st).2.1,req,(if((bH m st).2.1 != (0:Int))=true then st else dB),List.replicate k (0:Int),()),(k:Int),(0:Int),())=_:=hl9
 have hl:dW (m,st,())=some ((0:Int),()):=hl
 unfold s7
 simp only[hl,k0,l0,hf,hq,Bool.not_true,hd,he,hlen,hl9,hs]
 cases cV m st ((bH m st).2.1,req,(if((bH m st).2.1 != (0:Int))=true then st else dB),List.replicate k fill,())<;>simp only[Bool.not_true,Bool.not_false,cJ,dZ,if_true,Bool.false_eq_true,if_false]<;>rfl
noncomputable def fR(m:ae.T)(st:ab.T)(x:ar.T):List Int:=
 if cV m st (bE m st x.1 x.2.1)=true then dN (fc m st (bE m st x.1 x.2.1))
 else if cV m st (bE m st x.1 0)=true then dN (fc m st (bE m st x.1 0))
 else List.replicate (8*(bH m st).2.2.2.1.toNat) 1
theorem IL {m:ae.T}{st:ab.T}{f:aL.T}(h:aY m=true)(hb:aA m st=true)(hs:cV m st f=true):gD m st f=0:=by
 unfold gD
 rw[h,hb,hs]
theorem Zk(m:ae.T)(st:ab.T)(x:ar.T)(hz:bZ m)(h:aY m=true)(hb:aA m st=true)(hx:aN x.1 0 255=true)(hq:aN x.2.1 0 7=true):KX (m,st,x,())=some (fR m st x,()):=by
 obtain⟨_,hd,hqd⟩:=d5 m st h hb
 obtain⟨D,hD,hD2⟩:=vq hqd
 have hl:=M8 m st hz
 rw[h,hb]at hl
 have hl:dW (m,st,())=some ((0:Int),()):=hl
 have f1:=Lu m st x.1 x.2.1 hz h hb hx hq
 have f2:=Lu m st x.1 0 hz h hb hx (by decide)
 have k0:((0:Int) != 0)=false:=rfl
 have k1:((0:Int)==0)=true:=rfl
 have k5:((5:Int)==0)=false:=rfl
 have hw:IntKind.i64.wrap ((8:Int)*(D:Int))=((8*D:Nat):Int):=by rw[wrap_i64]<;>omega
 have hh:=Ai (8*D) (by omega)
 have sl:pv (m,st,())=some (List.replicate (8*D) (1:Int),(0:Int),()):=by
  unfold pv
  simp only[hl,k0,hd,hD,hw,hh]
 have two:([x.2.1,(0:Int)].length:Int)=2:=rfl
 have i0:au [x.2.1,(0:Int)] (0:Int)=some x.2.1:=rfl
 have i1:au [x.2.1,(0:Int)] (1:Int)=some (0:Int):=rfl
 have g0: [x.2.1,(0:Int)][(0:Int).toNat]? =some x.2.1:=rfl
 have g1: [x.2.1,(0:Int)][(1:Int).toNat]? =some (0:Int):=rfl
 have n1:IntKind.i64.wrap ((0:Int)+1)=1:=by decide
 have n2:IntKind.i64.wrap ((1:Int)+1)=2:=by decide
 have d0:decide ((0:Int)<2)=true:=by decide
 have d1:decide ((1:Int)<2)=true:=by decide
 have d2:decide ((2:Int)<2)=false:=by decide
 have sent1:∀q:Int,cV m st (bE m st x.1 q)=true→kM (m,st,bE m st x.1 q,())=some (dN (fc m st (bE m st x.1 q)),(0:Int),()):=fun q hs=>by
  have:=Zi m st (bE m st x.1 q) hz (by have:=Al h hb x.1 q;omega)
  rw[if_pos (IL h hb hs)]at this
  exact this
 have key:ac gl (m,st,x,[x.2.1,(0:Int)],(2:Int),(0:Int),())=some (if cV m st (bE m st x.1 x.2.1)=true then .inr (dN (fc m st (bE m st x.1 x.2.1)),())else if cV m st (bE m st x.1 0)=true then .inr (dN (fc m st (bE m st x.1 0)),())else .inl (m,st,())):=by
  rw[an]
  rcases Bool.eq_false_or_eq_true (cV m st (bE m st x.1 x.2.1))with s1|s1
  ·rw[if_pos s1]at f1 ⊢
   simp only[gl,d0,i0,aa,g0,f1,k1,sent1 _ s1]
  ·rw[if_neg (nb s1)]at f1 ⊢
   simp only[gl,d0,i0,aa,g0,f1,k5,n1]
   rw[an]
   rcases Bool.eq_false_or_eq_true (cV m st (bE m st x.1 0))with s2|s2
   ·rw[if_pos s2]at f2 ⊢
    simp only[gl,d1,i1,aa,g1,f2,k1,sent1 _ s2]
   ·rw[if_neg (nb s2)]at f2 ⊢
    simp only[gl,d1,i1,aa,g1,f2,k5,n2]
    rw[an]
    simp only[gl,d2]
 have key':ac gl (m,st,x,[x.2.1,(0:Int)],([x.2.1,(0:Int)].length:Int),(0:Int),())=_:=key
 unfold KX fR
 simp only[key']
 rcases Bool.eq_false_or_eq_true (cV m st (bE m st x.1 x.2.1))with s1|s1
 ·rw[if_pos s1,if_pos s1]
 ·rw[if_neg (nb s1),if_neg (nb s1)]
  rcases Bool.eq_false_or_eq_true (cV m st (bE m st x.1 0))with s2|s2
  ·rw[if_pos s2,if_pos s2]
  ·rw[if_neg (nb s2),if_neg (nb s2)]
   simp only[sl,hD,Int.toNat_natCast]
theorem Zl(m:ae.T)(st:ab.T)(x:ar.T)(hz:bZ m)(h:aY m=true)(hb:aA m st=true):o7 (m,st,x,())=some (fR m st x,()):=by
 obtain⟨hd,_,hqd⟩:=d5 m st h hb
 obtain⟨D,hD,hD2⟩:=vq hqd
 have f1:=RO m st x.1 x.2.1 h hb
 have f2:=RO m st x.1 0 h hb
 have hw:IntKind.i64.wrap ((8:Int)*(D:Int))=((8*D:Nat):Int):=by rw[wrap_i64]<;>omega
 have hh:=tC (8*D) 1 (by omega)
 have i0:au [x.2.1,(0:Int)] (0:Int)=some x.2.1:=rfl
 have i1:au [x.2.1,(0:Int)] (1:Int)=some (0:Int):=rfl
 have g0: [x.2.1,(0:Int)][(0:Int).toNat]? =some x.2.1:=rfl
 have g1: [x.2.1,(0:Int)][(1:Int).toNat]? =some (0:Int):=rfl
 have n1:IntKind.i64.wrap ((0:Int)+1)=1:=by decide
 have n2:IntKind.i64.wrap ((1:Int)+1)=2:=by decide
 have d0:decide ((0:Int)<2)=true:=by decide
 have d1:decide ((1:Int)<2)=true:=by decide
 have d2:decide ((2:Int)<2)=false:=by decide
 have sb:∀q:Int,kE (m,st,bE m st x.1 q,())=some (cV m st (bE m st x.1 q),()):=fun q=>aah m st _ h hb (by have:=Al h hb x.1 q;omega)
 have sent1:∀q:Int,cV m st (bE m st x.1 q)=true→o6 (m,st,bE m st x.1 q,())=some (fc m st (bE m st x.1 q),())∧lB (fc m st (bE m st x.1 q),())=some (dN (fc m st (bE m st x.1 q)),()):=fun q hs=>by
  have hc:=IL h hb hs
  exact⟨Tq m st _ hz hc,W7 _ (by have:=(IK hc).1;omega)⟩
 have key:ac bQ (m,st,x,[x.2.1,(0:Int)],(0:Int),())=some (if cV m st (bE m st x.1 x.2.1)=true then .inr (dN (fc m st (bE m st x.1 x.2.1)),())else if cV m st (bE m st x.1 0)=true then .inr (dN (fc m st (bE m st x.1 0)),())else .inl (m,st,())):=by
  rw[an]
  rcases Bool.eq_false_or_eq_true (cV m st (bE m st x.1 x.2.1))with s1|s1
  ·rw[if_pos s1]
   simp only[bQ,d0,i0,aa,g0,f1,sb,s1,(sent1 _ s1).1,(sent1 _ s1).2,dZ]
  ·rw[if_neg (nb s1)]
   simp only[bQ,d0,i0,aa,g0,f1,sb,s1,n1,dZ]
   rw[an]
   rcases Bool.eq_false_or_eq_true (cV m st (bE m st x.1 0))with s2|s2
   ·rw[if_pos s2]
    simp only[bQ,d1,i1,aa,g1,f2,sb,s2,(sent1 _ s2).1,(sent1 _ s2).2,dZ]
   ·rw[if_neg (nb s2)]
    simp only[bQ,d1,i1,aa,g1,f2,sb,s2,n2,dZ]
    rw[an]
    simp only[bQ,d2]
 unfold o7 fR
 simp only[key]
 rcases Bool.eq_false_or_eq_true (cV m st (bE m st x.1 x.2.1))with s1|s1
 ·rw[if_pos s1,if_pos s1]
 ·rw[if_neg (nb s1),if_neg (nb s1)]
  rcases Bool.eq_false_or_eq_true (cV m st (bE m st x.1 0))with s2|s2
  ·rw[if_pos s2,if_pos s2]
  ·rw[if_neg (nb s2),if_neg (nb s2)]
   simp only[hd,hD,hw,hh,Int.toNat_natCast]
end Go.Proofs.YthfgmmmeplanbaaGreatDoor
namespace Go.Proofs.YthfgmmmeplanbaaGreatDoor
open Go.RowKit
set_option linter.unusedVariables false
set_option linter.unusedSimpArgs false
theorem X9 {l:List Int}(h:bD l=true):∀v ∈ l,v=0∨v=1:=by
 intro v hv
 obtain⟨i,hi,rfl⟩:=List.getElem_of_mem hv
 exact vd h hi
theorem M9 {l:List Int}(h1:l.length≤8192)(h2:∀v ∈ l,v=0∨v=1):bD l=true:=TS h1 fun i hi=>h2 _ (List.getElem_mem hi)
theorem Xa {g:Int→Int}(hg:∀v,v=0∨v=1→g v=0∨g v=1):∀(k i:Nat) (l:List Int),(∀v ∈ l,v=0∨v=1)→i+k≤l.length→∀v ∈ chg g k i l,v=0∨v=1
 |0,i,l,h,_=>h
 |k+1,i,l,h,hi=>by
  rw[chg]
  refine Xa hg k (i+1) _ (fun v hv=> ?_) (by rw[List.length_set];omega)
  rcases List.mem_or_eq_of_mem_set hv with hv|rfl
  ·exact h v hv
  ·refine hg _ (h _ ?_)
   have hlt:i<l.length:=by omega
   rw[List.getD_eq_getElem?_getD,List.getElem?_eq_getElem hlt]
   exact List.getElem_mem hlt
theorem Fg {g:Int→Int}(hg:∀v,v=0∨v=1→g v=0∨g v=1){l:List Int}(h:∀v ∈ l,v=0∨v=1)(a b:Nat):∀v ∈ vp g l a b,v=0∨v=1:=by
 unfold vp
 by_cases hab:min a l.length≤min b l.length
 ·exact Xa hg _ _ l h (by omega)
 ·have:min b l.length-min a l.length=0:=by omega
  rw[this]
  exact h
theorem Ui:∀v,v=0∨v=1→wL v=0∨wL v=1:=by
 rintro v (rfl|rfl)
 ·exact .inr (by decide)
 ·exact .inl (by decide)
theorem Xb {k a c v:Int}(h:fe (k,a,c,v,())=true):(k=4∨k=6)→v=0∨v=1:=by
 intro hk
 unfold fe at h
 simp only[Bool.and_eq_true]at h
 have h4:=h.2.2.2
 have hv:EF k=true:=by
  unfold EF
  rcases hk with rfl|rfl<;>rfl
 rw[hv]at h4
 have:=aO.1 h4
 omega
theorem VC {l:List Int}{f:al.T}(h:bD l=true)(hf:fe f=true):bD (fW l f)=true:=by
 have h01:=X9 h
 refine M9 (wM l (cS h) f) ?_
 obtain⟨(k:Int),(a:Int),(c:Int),(v:Int),⟨⟩⟩:=f
 obtain⟨hk,_,_⟩:=xo hf
 have hv:=Xb hf
 unfold fW
 split
 ·exact Fg Ui h01 _ _
 ·split
  ·exact Fg Ui h01 _ _
  ·split
   ·intro u hu
    rcases List.mem_append.1 hu with hu|hu
    ·exact h01 u (List.mem_of_mem_take hu)
    ·exact h01 u (List.mem_of_mem_drop hu)
   ·split
    ·rename_i h4
     have h4:k=4:=h4
     intro u hu
     have hu:=List.mem_of_mem_take hu
     split at hu
     ·rcases List.mem_append.1 hu with hu|hu
      ·rcases List.mem_append.1 hu with hu|hu
       ·exact h01 u (List.mem_of_mem_take hu)
       ·rw[List.mem_replicate]at hu
        rw[hu.2]
        exact hv (.inl h4)
      ·exact h01 u (List.mem_of_mem_drop hu)
     ·exact h01 u hu
    ·split
     ·exact Fg (fun _ _=>.inr rfl) h01 _ _
     ·rename_i n1 n2 n3 n4 n5
      have h6:k=6:=by
       have n1:¬k=1:=n1
       have n2:¬k=2:=n2
       have n3:¬k=3:=n3
       have n4:¬k=4:=n4
       have n5:¬k=5:=n5
       omega
      exact Fg (fun _ _=>hv (.inr h6)) h01 _ _
theorem kU {s:List al.T}(hs:eB s=true){l:List Int}(h:bD l=true):bD (eC l s)=true:=by
 have hall:∀f ∈ s,fe f=true:=by
  unfold eB at hs
  simp only[Bool.and_eq_true,List.all_eq_true]at hs
  exact fun f hf=>by first|exact hs.1 f hf|exact hs.2 f hf
 exact ov (P:=fun z:List Int=>bD z=true) s l (fun z f hf hz=>VC hz (hall f hf)) h
theorem EI {m:ae.T}{st:ab.T}(x:ar.T)(h:aY m=true)(hb:aA m st=true):bD (fR m st x)=true:=by
 obtain⟨_,_,hqd⟩:=d5 m st h hb
 obtain⟨D,hD,hD2⟩:=vq hqd
 have cells:∀f,cV m st f=true→bD (dN (fc m st f))=true:=fun f hs=>by
  obtain⟨c1,c2⟩:=IK (IL h hb hs)
  refine M9 (by rw[To];omega) fun v hv=> ?_
  unfold dN at hv
  obtain⟨c,hc,hv⟩:=List.mem_flatMap.1 hv
  rw[List.mem_replicate]at hv
  rw[hv.2]
  exact c2 c hc
 unfold fR
 split
 ·exact cells _ (by assumption)
 ·split
  ·exact cells _ (by assumption)
  ·refine M9 (by rw[hD,Int.toNat_natCast,List.length_replicate];omega) fun v hv=> ?_
   rw[List.mem_replicate]at hv
   exact .inr hv.2
noncomputable def ff(x:ar.T):Bool:=aN x.1 0 255&&aN x.2.1 0 7&&eB x.2.2.1&&eB x.2.2.2.1
def jU(x:ar.T):Prop:=x.2.2.1.length≤1099511627776∧x.2.2.2.1.length≤1099511627776
theorem Zm(x:ar.T)(h:jU x):zF (x,())=some (ff x,()):=by
 unfold zF ff
 simp only[iU,NT x.2.2.1 h.1,NT x.2.2.2.1 h.2]
 cases aN x.1 0 255<;>cases aN x.2.1 0 7<;>cases eB x.2.2.1<;>cases eB x.2.2.2.1<;>rfl
theorem Zn(x:ar.T)(h:jU x):uP (x,())=some (ff x,()):=by
 unfold uP ff
 simp only[l0,NU x.2.2.1 h.1,NU x.2.2.2.1 h.2]
 cases aN x.1 0 255<;>cases aN x.2.1 0 7<;>cases eB x.2.2.1<;>cases eB x.2.2.2.1<;>rfl
noncomputable def cv(m:ae.T)(st:ab.T)(l:List ar.T):Int:=match aY m with
 |false=>1
 |true=>match aA m st with
  |false=>2
  |true=>if(l.length:Int)>40 then 3 else if l.all ff then 0 else 5
theorem RP(m:ae.T)(st:ab.T)(l:List ar.T)(hz:bZ m)(hl:l.length≤1048576)(hs:∀x ∈ l,jU x):kR (m,st,l,())=some (cv m st l,()):=by
 have hk:=M8 m st hz
 have hc:=O8 l (Nat.le_trans hl (by omega)) nu (fun x=> !ff x) (fun i h=>by
  have hf:=Zn l[i] (hs _ (List.getElem_mem h))
  have e0:nu (l[i],())=match uP (l[i],())with
   |none=>none
   |some v1=>some ((!v1.1),()):=rfl
  rw[e0,hf])
 have hany:l.any (fun x=> !ff x)= !l.all ff:=by rw[List.all_eq_not_any_not,Bool.not_not]
 unfold kR cv
 rcases Bool.eq_false_or_eq_true (aY m)with h1|h1<;>simp only[h1]at hk ⊢
 ·rcases Bool.eq_false_or_eq_true (aA m st)with h2|h2<;>simp only[h2]at hk ⊢
  ·have k0:((0:Int) != 0)=false:=rfl
   simp only[hk,k0]
   by_cases h3:(l.length:Int)>40
   ·simp only[decide_eq_true h3,if_pos h3]
   ·simp only[decide_eq_false h3,if_neg h3,hc,hany]
    cases l.all ff<;>rfl
  ·have k0:((2:Int) != 0)=true:=rfl
   simp only[hk,k0]
 ·have k0:((1:Int) != 0)=true:=rfl
  simp only[hk,k0]
theorem Uj(l:List ar.T)(c:Int)(hc:c≠0)(i:Nat)(hl:l.length≤1048576)(hi:i≤l.length):ac cd (l,c,(i:Int),())=some (.inl (c,())):=by
 have hq:(c==0)=false:=by simpa using hc
 rw[an]
 by_cases h:i<l.length
 ·simp only[cd,aK h,hq]
 ·have:i=l.length:=by omega
  subst this
  simp only[cd,aJ]
theorem Uk(l:List ar.T)(hl:l.length≤1048576)(hs:∀x ∈ l,jU x):∀(k i:Nat),i+k=l.length→ac cd (l,(0:Int),(i:Int),())=some (.inl ((if(l.drop i).all ff then(0:Int)else 5),()))
 |0,i,hi=>by
  have hi:i=l.length:=by omega
  subst hi
  rw[an]
  simp only[cd,aJ,List.drop_length,List.all_nil,if_true]
 |k+1,i,hi=>by
  have h:i<l.length:=by omega
  have hb:=Zm l[i] (hs _ (List.getElem_mem h))
  have k0:((0:Int)==0)=true:=rfl
  have ih:=Uk l hl hs k (i+1) (by omega)
  have i5:=Uj l 5 (by decide) (i+1) hl (by omega)
  rw[an,List.drop_eq_getElem_cons h,List.all_cons]
  simp only[cd,aK h,av h (show l.length≤1099511627776 by omega),k0,am h,aa,hb]
  cases ff l[i]
  ·simp only[Bool.not_false,Bool.false_and,Bool.false_eq_true,if_false]
   exact i5
  ·simp only[Bool.not_true,Bool.true_and]
   exact ih
theorem RQ(m:ae.T)(st:ab.T)(l:List ar.T)(hz:bZ m)(hl:l.length≤1048576)(hs:∀x ∈ l,jU x):n9 (m,st,l,())=some (cv m st l,()):=by
 have hk:=Zj m st hz
 have e0:=Uk l hl hs l.length 0 (by omega)
 have ek:=fun c hc=>Uj l c hc 0 hl (by omega)
 have e0:ac cd (l,(0:Int),(0:Int),())=_:=e0
 rw[List.drop_zero]at e0
 have e1:ac cd (l,(1:Int),(0:Int),())=_:=ek 1 (by decide)
 have e2:ac cd (l,(2:Int),(0:Int),())=_:=ek 2 (by decide)
 have e3:ac cd (l,(3:Int),(0:Int),())=_:=ek 3 (by decide)
 have q0:((0:Int)==0)=true:=rfl
 have q1:((1:Int)==0)=false:=rfl
 have q2:((2:Int)==0)=false:=rfl
 unfold n9 cv
 rcases Bool.eq_false_or_eq_true (aY m)with h1|h1<;>simp only[h1]at hk ⊢
 ·rcases Bool.eq_false_or_eq_true (aA m st)with h2|h2<;>simp only[h2]at hk ⊢
  ·simp only[hk,q0]
   by_cases h3:(l.length:Int)>40
   ·simp only[decide_eq_true h3,if_pos h3,e3]
   ·simp only[decide_eq_false h3,if_neg h3,e0]
  ·simp only[hk,q2,e2]
 ·simp only[hk,q1,e1]
noncomputable def eO(m:ae.T)(st:ab.T)(x:ar.T):az.T:=gZ (gp m st (eC (fR m st x) x.2.2.1)) (gp m st (eC (fR m st x) x.2.2.2.1))
noncomputable def Pi(m:ae.T)(st:ab.T)(x:ar.T):Int:=((iq st.2.2.2.2.1.toNat (bH m st).1.toNat ((eO m st x).1==(3:Int)):Nat):Int)
noncomputable def iQ(m:ae.T)(st:ab.T)(x:ar.T):ab.T:=Ff m st (Pi m st x)
theorem vr {m:ae.T}{st:ab.T}{l:List Int}(h:aY m=true)(hb:aA m st=true)(hl:bD l=true):gK m st l=(gp m st l,(0:Int),()):=by
 unfold gK
 rw[h,hb,hl]
theorem Ya {m:ae.T}{st:ab.T}{l l2:List Int}(h:aY m=true)(hb:aA m st=true)(hl:bD l=true)(hl2:bD l2=true):Fb m st l l2=(gZ (gp m st l) (gp m st l2),(0:Int),()):=by
 unfold Fb
 rw[vr h hb hl,vr h hb hl2]
 rfl
theorem tn {m:ae.T}{st:ab.T}(hb:aA m st=true):∃d:Nat,st.2.2.2.2.1=(d:Int)∧d<4294967296:=by
 obtain⟨_,_,_,d,_,_,_,ed,_,_,_,hd⟩:=vm (ow hb)
 exact⟨d,ed,by omega⟩
theorem EJ {d:a7.T}(h:kr d=true):∃n:Nat,d.1=(n:Int)∧n<32:=by
 unfold kr at h
 simp only[Bool.and_eq_true]at h
 have hr:=aO.1 h.1
 have e:((d.1.toNat:Nat):Int)=d.1:=Int.toNat_of_nonneg hr.1
 have h2:((d.1.toNat:Nat):Int)≤31:=by rw[e];exact hr.2
 exact⟨d.1.toNat,e.symm,by omega⟩
theorem Am {x:ar.T}(h:ff x=true):aN x.1 0 255=true∧aN x.2.1 0 7=true∧eB x.2.2.1=true∧eB x.2.2.2.1=true:=by
 unfold ff at h
 simp only[Bool.and_eq_true]at h
 exact⟨h.1.1.1,h.1.1.2,h.1.2,h.2⟩
theorem Zo(m:ae.T)(st:ab.T)(x:ar.T)(hz:bZ m)(h:aY m=true)(hb:aA m st=true)(hx:ff x=true):s8 (m,st,x,())=some (eO m st x,iQ m st x,()):=by
 obtain⟨x1,x2,x3,x4⟩:=Am hx
 have hsb:=EI x h hb
 have hs:=Zk m st x hz h hb x1 x2
 have a1:=RM (fR m st x) (cS hsb) x.2.2.1 x3
 have a2:=RM (fR m st x) (cS hsb) x.2.2.2.1 x4
 have b1:=kU x3 hsb
 have b2:=kU x4 hsb
 have hr:=aad m st _ _ hz (Nat.le_trans (cS b1) (by omega)) (Nat.le_trans (cS b2) (by omega))
 rw[Ya h hb b1 b2]at hr
 obtain⟨_,hd,hqd⟩:=d5 m st h hb
 obtain⟨n,hn,hn2⟩:=EJ hqd
 obtain⟨d,hdd,hd2⟩:=tn hb
 have hm:=aak d n ((eO m st x).1==(3:Int)) hd2 hn2
 have hnx:=(NW m st _ h hb (Ak ((eO m st x).1==(3:Int)) hd2 hn2)).2
 have hv:gZ (gp m st (eC (fR m st x) x.2.2.1)) (gp m st (eC (fR m st x) x.2.2.2.1))=eO m st x:=rfl
 rw[hv]at hr
 have hnx:be (m,(st.1,st.2.1,st.2.2.1,st.2.2.2.1,((iq d n ((eO m st x).1==(3:Int)):Nat):Int),()),())=_:=hnx
 unfold s8 iQ Pi
 simp only[hs,a1,a2,hr,hd,hn,hdd,hm,hnx,dZ,cJ,Int.toNat_natCast]
theorem Zp(m:ae.T)(st:ab.T)(x:ar.T)(hz:bZ m)(h:aY m=true)(hb:aA m st=true)(hx:ff x=true):qQ (m,st,x,())=some (eO m st x,iQ m st x,()):=by
 obtain⟨x1,x2,x3,x4⟩:=Am hx
 have hsb:=EI x h hb
 have hs:=Zl m st x hz h hb
 have a1:=RN (fR m st x) (cS hsb) x.2.2.1 x3
 have a2:=RN (fR m st x) (cS hsb) x.2.2.2.1 x4
 have b1:=kU x3 hsb
 have b2:=kU x4 hsb
 obtain⟨c1,r1⟩:=WX m st _ h hb b1
 obtain⟨c2,r2⟩:=WX m st _ h hb b2
 have hdat:(E9 (gp m st (eC (fR m st x) x.2.2.1))).length≤1099511627776:=by
  have:=wJ m st (eC (fR m st x) x.2.2.1)
  rw[vr h hb b1]at this
  exact Nat.le_trans this (by omega)
 have hr:=Zd (gp m st (eC (fR m st x) x.2.2.1)) (gp m st (eC (fR m st x) x.2.2.2.1)) hdat
 obtain⟨hd,_,hqd⟩:=d5 m st h hb
 obtain⟨n,hn,hn2⟩:=EJ hqd
 obtain⟨d,hdd,hd2⟩:=tn hb
 have hm:=aal d n ((eO m st x).1==(3:Int)) hd2 hn2
 have hnx:=(NW m st _ h hb (Ak ((eO m st x).1==(3:Int)) hd2 hn2)).1
 have hv:gZ (gp m st (eC (fR m st x) x.2.2.1)) (gp m st (eC (fR m st x) x.2.2.2.1))=eO m st x:=rfl
 rw[hv]at hr
 have hnx:jZ (m,(st.1,st.2.1,st.2.2.1,st.2.2.2.1,((iq d n ((eO m st x).1==(3:Int)):Nat):Int),()),())=_:=hnx
 unfold qQ iQ Pi
 simp only[hs,a1,a2,r1,r2,hr,hd,hn,hdd,hm,hnx,dZ,cJ,Int.toNat_natCast]
theorem qj {m:ae.T}{st:ab.T}{l:List ar.T}(h:cv m st l=0):aY m=true∧aA m st=true∧l.length≤40∧∀x ∈ l,ff x=true:=by
 unfold cv at h
 cases h1:aY m<;>rw[h1]at h
 ·cases h
 ·cases h2:aA m st<;>rw[h2]at h
  ·cases h
  ·simp only at h
   split at h
   ·cases h
   ·split at h
    ·rename_i h3 h4
     exact⟨rfl,rfl,by omega,fun x hx=>List.all_eq_true.1 h4 x hx⟩
    ·cases h
end Go.Proofs.YthfgmmmeplanbaaGreatDoor
namespace Go.Proofs.YthfgmmmeplanbaaGreatDoor
open Go.RowKit
set_option linter.unusedVariables false
set_option linter.unusedSimpArgs false
theorem RS(m:ae.T)(hx:Wf ae m):∃y:Int,nC (m,(1048576:Int),())=some (y,())∧y≤1048576∧(0≤y→za m):=by
 obtain⟨y,hy,hs⟩:=Zc m hx
 refine⟨y,hy, ?_,hs⟩
 have w1:m.2.1.length≤maxLen:=hx.2.1.1
 have w2:∀v ∈ m.2.1,v.2.1.length≤maxLen:=fun v hv=>(hx.2.1.2 v hv).2.1
 have w3:m.2.2.1.length≤maxLen:=hx.2.2.1.1
 have w4:∀v ∈ m.2.2.1,v.2.2.1.length≤maxLen:=fun v hv=>(hx.2.2.1.2 v hv).2.2.1.1
 have w5:m.2.2.2.1.length≤maxLen:=hx.2.2.2.1.1
 obtain⟨a,ea,a1,a2⟩:=RE m.2.1 w1 w2 1048576 (by omega) (by omega)
 unfold nC at hy
 simp only[ea]at hy
 by_cases ca:a<0
 ·simp only[decide_eq_true ca]at hy
  have:y= -1:=by cases hy;rfl
  omega
 ·obtain⟨b,eb,b1,b2⟩:=RF m.2.2.1 w3 w4 a (by omega) (by omega)
  simp only[decide_eq_false ca,eb]at hy
  by_cases cb:b<0
  ·simp only[decide_eq_true cb]at hy
   have:y= -1:=by cases hy;rfl
   omega
  ·have ec:=Eu (m.2.2.2.1,b,()) (show(0:Int)≤b by omega) (show b≤(1048576:Int) by omega) w5
   simp only[decide_eq_false cb,ec]at hy
   by_cases cc:b-(m.2.2.2.1.length:Int)<0
   ·simp only[if_pos cc]at hy
    have:y= -1:=by cases hy;rfl
    omega
   ·simp only[if_neg cc,decide_eq_false cc]at hy
    have:y=b-(m.2.2.2.1.length:Int):=by cases hy;rfl
    omega
theorem NX(s:List al.T)(n:Int)(h0:0≤n)(h1:n≤1048576)(hw:s.length≤maxLen):∃y:Int,mc (s,n,())=some (y,())∧y≤n∧(0≤y→(s.length:Int)≤n):=by
 have e:=Ww (s,n,()) h0 h1 hw
 by_cases hc:n-(s.length:Int)<0
 ·exact⟨-1,by rw[e,if_pos hc],by omega,fun h=>by omega⟩
 ·exact⟨n-s.length,by rw[e,if_neg hc],by omega,fun h=>by omega⟩
end Go.Proofs.YthfgmmmeplanbaaGreatDoor
namespace Go.Proofs.YthfgmmmeplanbaaGreatDoor
open Go.RowKit
set_option linter.unusedVariables false
set_option linter.unusedSimpArgs false
theorem aam(s:ar.T)(n:Int)(h0:0≤n)(h1:n≤1048576)(w1:s.2.2.1.length≤maxLen)(w2:s.2.2.2.1.length≤maxLen):∃y:Int,p0 (s,n,())=some (y,())∧y≤n∧(0≤y→(s.2.2.1.length:Int)≤n∧(s.2.2.2.1.length:Int)≤n):=by
 obtain⟨y1,e1,b1,g1⟩:=NX s.2.2.1 n h0 h1 w1
 by_cases n1:y1<0
 ·refine⟨-1, ?_,by omega,fun h=>by omega⟩
  unfold p0
  simp only[e1,decide_eq_true n1]
 ·obtain⟨y2,e2,b2,g2⟩:=NX s.2.2.2.1 y1 (by omega) (by omega) w2
  by_cases n2:y2<0
  ·refine⟨-1, ?_,by omega,fun h=>by omega⟩
   unfold p0
   simp only[e1,decide_eq_false n1,e2,decide_eq_true n2]
  ·refine⟨y2, ?_,by omega,fun h=> ?_⟩
   ·unfold p0
    simp only[e1,decide_eq_false n1,e2,decide_eq_false n2]
   ·have:=g1 (by omega);have:=g2 (by omega);omega
def pJ(s:ar.T):Prop:=s.2.2.1.length≤1048576∧s.2.2.2.1.length≤1048576
theorem aan(s:ar.T)(h:pJ s):zK (s,())=some (s,()):=by
 have h1:g9 (s.2.2.1,())=some (s.2.2.1,()):=NK (s.2.2.1,()) (Nat.le_trans h.1 (by omega))
 have h2:g9 (s.2.2.2.1,())=some (s.2.2.2.1,()):=NK (s.2.2.2.1,()) (Nat.le_trans h.2 (by omega))
 have e0:zK (s,())=match g9 (s.2.2.1,())with
  |none=>none
  |some v1=>match g9 (s.2.2.2.1,())with
   |none=>none
   |some v2=>some ((s.1,s.2.1,v1.1,v2.1,()),()):=rfl
 rw[e0,h1]
 simp only[h2]
theorem aao(s:ar.T)(h:pJ s):zW (s,s,())=some (true,()):=by
 have h1:kp (s.2.2.1,s.2.2.1,())=some (true,()):=NL _ rfl (Nat.le_trans h.1 (by omega))
 have h2:kp (s.2.2.2.1,s.2.2.2.1,())=some (true,()):=NL _ rfl (Nat.le_trans h.2 (by omega))
 unfold zW
 simp only[h1,h2,jf,Bool.not_true]
end Go.Proofs.YthfgmmmeplanbaaGreatDoor
namespace Go.Proofs.YthfgmmmeplanbaaGreatDoor
open Go.RowKit
set_option linter.unusedVariables false
set_option linter.unusedSimpArgs false
theorem RT(l:List ar.T)(hl:l.length≤1048576)(hw:∀x ∈ l,x.2.2.1.length≤maxLen∧x.2.2.2.1.length≤maxLen):∀(k i:Nat) (c:Int),i+k=l.length→0≤c→c≤1048576→
  (∃y:Int,ac cO (l,c,(i:Int),())=some (.inl (y,()))∧0≤y∧y≤c∧∀x ∈ l.drop i,pJ x)∨ac cO (l,c,(i:Int),())=some (.inr ((-1:Int),()))
 |0,i,c,hi,h0,h1=>by
  have hi:i=l.length:=by omega
  subst hi
  refine .inl ⟨c, ?_,h0,Int.le_refl _,fun x hx=>by simp at hx⟩
  rw[an]
  simp only[cO,aJ]
 |k+1,i,c,hi,h0,h1=>by
  have hlt:i<l.length:=by omega
  obtain⟨w1,w2⟩:=hw _ (List.getElem_mem hlt)
  obtain⟨y,hy,b,g⟩:=aam l[i] c h0 h1 w1 w2
  by_cases hn:y<0
  ·right
   rw[an]
   simp only[cO,aK hlt,am hlt,aa,hy,decide_eq_true hn]
  ·have ih:=RT l hl hw k (i+1) y (by omega) (by omega) (by omega)
   have e:ac cO (l,c,(i:Int),())=ac cO (l,y,((i+1:Nat):Int),()):=by
    rw[an]
    simp only[cO,aK hlt,am hlt,aa,hy,decide_eq_false hn,av hlt (show l.length≤1099511627776 by omega)]
   rw[e]
   rcases ih with⟨z,hz,z0,z1,hz2⟩|hz
   ·left
    refine⟨z,hz,z0,by omega,fun x hx=> ?_⟩
    rw[List.drop_eq_getElem_cons hlt]at hx
    rcases List.mem_cons.1 hx with rfl|hx
    ·have:=g (by omega)
     exact⟨by omega,by omega⟩
    ·exact hz2 x hx
   ·exact .inr hz
theorem Ul(l:List ar.T)(hw:Wf (.list ar) l)(n:Int)(h0:0≤n)(h1:n≤1048576):∃y:Int,lv (l,n,())=some (y,())∧y≤n∧(0≤y→l.length≤1048576∧∀x ∈ l,pJ x):=by
 have hlen:l.length≤maxLen:=hw.1
 have hws:∀x ∈ l,x.2.2.1.length≤maxLen∧x.2.2.2.1.length≤maxLen:=fun x hx=>⟨(hw.2 x hx).2.2.1.1,(hw.2 x hx).2.2.2.1.1⟩
 have hm:l.length≤9223372036854775807:=by unfold maxLen at hlen;omega
 have hwr:IntKind.i64.wrap (n-(l.length:Int))=n-(l.length:Int):=by rw[wrap_i64]<;>omega
 by_cases hc:n-(l.length:Int)<0
 ·refine⟨-1, ?_,by omega,fun h=>by omega⟩
  unfold lv
  simp only[hwr,decide_eq_true hc]
 ·have hk:=RT l (by omega) hws l.length 0 (n-(l.length:Int)) (by omega) (by omega) (by omega)
  rcases hk with⟨y,hy,y0,y1,hs⟩|hy
  ·have hy:ac cO (l,n-(l.length:Int),(0:Int),())=_:=hy
   refine⟨y, ?_,by omega,fun _=>⟨by omega,fun x hx=>hs x (by rw[List.drop_zero];exact hx)⟩⟩
   unfold lv
   simp only[hwr,decide_eq_false hc,hy]
  ·have hy:ac cO (l,n-(l.length:Int),(0:Int),())=_:=hy
   refine⟨-1, ?_,by omega,fun h=>by omega⟩
   unfold lv
   simp only[hwr,decide_eq_false hc,hy]
theorem RU(l:List ar.T)(hl:l.length≤1048576)(hs:∀x ∈ l,pJ x):∀(k i:Nat) (o:List ar.T),i+k=l.length→o.length=l.length→(∀j,j<i→o[j]? =l[j]?)→ac gR (l,o,(i:Int),())=some (.inl (l,()))
 |0,i,o,hi,ho,hq=>by
  have hi:i=l.length:=by omega
  subst hi
  have e:o=l:=by
   apply List.ext_getElem?
   intro j
   rcases Nat.lt_or_ge j l.length with hj|hj
   ·exact hq j hj
   ·rw[List.getElem?_eq_none (by omega),List.getElem?_eq_none hj]
  rw[an,e]
  simp only[gR,aJ]
 |k+1,i,o,hi,ho,hq=>by
  have hlt:i<l.length:=by omega
  have hlo:i<o.length:=by omega
  have ht:=aan l[i] (hs _ (List.getElem_mem hlt))
  have hget:o[i]? =some o[i]:=List.getElem?_eq_getElem hlo
  have ih:=RU l hl hs k (i+1) (o.set i l[i]) (by omega) (by rw[List.length_set];exact ho) (fun j hj=>by
   rw[List.getElem?_set]
   by_cases hij:i=j
   ·subst hij
    rw[if_pos rfl,if_pos hlo,List.getElem?_eq_getElem hlt]
   ·rw[if_neg hij];exact hq j (by omega))
  rw[an]
  simp only[gR,aK hlt,am hlt,am hlo,aa,ht,Int.toNat_natCast,hget,av hlt (show l.length≤1099511627776 by omega)]
  exact ih
theorem Um(l:List ar.T)(hl:l.length≤1048576)(hs:∀x ∈ l,pJ x):ib (l,())=some (l,()):=by
 have e:=RU l hl hs l.length 0 (List.replicate (l.length:Int).toNat ((0:Int),(0:Int),[],[],())) (by omega) (by simp) (fun j hj=>by omega)
 have e:ac gR (l,List.replicate (l.length:Int).toNat ((0:Int),(0:Int),[],[],()),(0:Int),())=_:=e
 unfold ib
 simp only[e]
 rw[if_pos ⟨by omega,by omega⟩,aF (by rw[Int.toNat_natCast];omega)]
theorem Un(l:List ar.T)(hl:l.length≤1048576)(hs:∀x ∈ l,pJ x):rg (l,l,())=some (true,()):=by
 have e:=gY (B:=gW) l (fun i=>(l,l,(i:Int),())) (fun _=>true) (.inl ()) (.inr (false,())) (by simp only[gW,aJ]) (fun i h=>by
  have hq:=aao l[i] (hs _ (List.getElem_mem h))
  simp only[gW,aK h,av h (show l.length≤1099511627776 by omega),am h,aa,hq,Bool.not_true]
  rfl)
 have e:ac gW (l,l,(0:Int),())=_:=e
 have ha:l.all (fun _=>true)=true:=by simp
 unfold rg
 simp only[e,ha,jf]
 rfl
end Go.Proofs.YthfgmmmeplanbaaGreatDoor
namespace Go.Proofs.YthfgmmmeplanbaaGreatDoor
open Go.RowKit
set_option linter.unusedVariables false
set_option linter.unusedSimpArgs false
theorem Zq {m:ae.T}(h:aY m=true):lj m=true:=by
 unfold aY vl at h
 obtain⟨h0,h2,h3,h4,h5⟩:=fC h
 have h1:aN m.1 1 16777215=true:=aO.2 h0
 cases h6:lj m
 ·simp[h1,h2,h3,h4,h5,h6]at h
 ·rfl
def tq(m:ae.T)(st:ab.T):ao.T:=(m.2.2.1[st.2.1.toNat]?).getD ((0:Int),(0:Int),([]:List Int),())
def EK(m:ae.T)(st:ab.T)(to:Int):Bool:=(tq m st).2.2.1.any fun u=>u==to
theorem An {m:ae.T}{st:ab.T}(h:aY m=true)(hb:aA m st=true):∃(a:Nat) (ha:a<m.2.2.1.length),st.2.1=(a:Int)∧tq m st=m.2.2.1[a]∧au m.2.2.1 st.2.1=some (tq m st):=by
 obtain⟨a,ha,ea,_⟩:=Fe h hb
 have e:tq m st=m.2.2.1[a]:=by
  unfold tq
  rw[ea,Int.toNat_natCast,List.getElem?_eq_getElem ha]
  rfl
 exact⟨a,ha,ea,e,by rw[e,ea];exact am ha⟩
theorem aaP(m:ae.T)(st:ab.T)(to:Int)(hz:bZ m)(h:aY m=true)(hb:aA m st=true):jr (m.2.2.1,st.2.1,to,())=some (EK m st to,()):=by
 obtain⟨a,ha,ea,em,ei⟩:=An h hb
 obtain⟨_,_,hm,_,_⟩:=fC h
 have hmod:=T4 m.2.2.1 hz.2.2.1 hz.2.2.2.1
 rw[hm]at hmod
 have hl16:=(df hm).1
 have hw:IntKind.i64.wrap ((m.2.2.1.length:Int)-1)=(m.2.2.1.length:Int)-1:=by rw[wrap_i64]<;>omega
 have hin:aN st.2.1 0 ((m.2.2.1.length:Int)-1)=true:=by rw[ea];exact aO.2 ⟨by omega,by omega⟩
 have hall:=TR [st.2.1] 0 ((m.2.2.1.length:Int)-1) (by simp)
 rw[List.all_cons,List.all_nil,hin]at hall
 have hnx:(tq m st).2.2.1.length≤1099511627776:=by rw[em];exact hz.2.2.2.1 _ (List.getElem_mem ha)
 have hc:=GQ (tq m st).2.2.1 to hnx
 have k0:((0:Int)==0)=true:=rfl
 unfold jr xj EK
 simp only[hmod,Bool.not_true,hw,hall,Bool.and_self,k0,ei,aa,hc]
theorem aaQ(m:ae.T)(st:ab.T)(to:Int)(hz:bZ m)(h:aY m=true)(hb:aA m st=true):nG ((tq m st).2.2.1,to,())=some (EK m st to,()):=by
 obtain⟨a,ha,ea,em,ei⟩:=An h hb
 have hnx:(tq m st).2.2.1.length≤1099511627776:=by rw[em];exact hz.2.2.2.1 _ (List.getElem_mem ha)
 exact WT _ _ hnx
theorem Yb {l:List Int}{n:Nat}(h:nh l n=true):∀u ∈ l,0≤u∧u<n:=by
 intro u hu
 obtain⟨i,hi,rfl⟩:=List.getElem_of_mem hu
 unfold nh at h
 rw[List.all_eq_true]at h
 have:=h i (List.mem_range.2 hi)
 unfold rp at this
 rw[List.getElem?_eq_getElem hi]at this
 simp only[Bool.and_eq_true]at this
 have:=aO.1 this.1
 omega
def RV(m:ae.T)(p:Int):Prop:=p= -1∨(0≤p∧p<m.2.2.1.length)
theorem aap {m:ae.T}{st:ab.T}{to:Int}(h:aY m=true)(hb:aA m st=true)(hm:EK m st to=true):0≤to∧to<m.2.2.1.length:=by
 obtain⟨a,ha,ea,em,ei⟩:=An h hb
 obtain⟨_,_,hmo,_,_⟩:=fC h
 unfold eH at hmo
 simp only[Bool.and_eq_true,List.all_eq_true]at hmo
 have hat:=hmo.2 a (List.mem_range.2 ha)
 unfold pG at hat
 rw[List.getElem?_eq_getElem ha]at hat
 simp only[Bool.and_eq_true]at hat
 unfold EK at hm
 rw[em]at hm
 obtain⟨u,hu,e⟩:=List.any_eq_true.1 hm
 have e:u=to:=by simpa using e
 subst e
 have hr:nh m.2.2.1[a].2.2.1 m.2.2.1.length=true:=hat.2.2.1
 exact Yb hr u hu
noncomputable def qz(m:ae.T)(st:ab.T)(x:ar.T)(p:Int):Int:=if(decide ((eO m st x).2.1.2.1-1≥0)&&EK m st ((eO m st x).2.1.2.1-1))=true then(eO m st x).2.1.2.1-1 else p
noncomputable def dP(m:ae.T)(st:ab.T)(x:ar.T)(p:Int):ab.T×Int:=
 if((iQ m st x).2.2.1==(0:Int))=true∧((iQ m st x).2.2.2.1==(0:Int))=true∧qz m st x p≥0 then(((iQ m st x).1,qz m st x p,(iQ m st x).2.2.1,(iQ m st x).2.2.2.1,(iQ m st x).2.2.2.2.1,()),-1)else(iQ m st x,qz m st x p)
noncomputable def a8(m:ae.T):List ar.T→ab.T→Int→List az.T×List ab.T×ab.T
 | [],st,_=>([],[],st)
 |x::r,st,p=>(eO m st x::(a8 m r (dP m st x p).1 (dP m st x p).2).1,st::(a8 m r (dP m st x p).1 (dP m st x p).2).2.1,(a8 m r (dP m st x p).1 (dP m st x p).2).2.2)
theorem VD {d n A:Nat}(b:Bool)(hd:d&&& A=d)(hA:A.testBit n=true):iq d n b&&& A=iq d n b:=by
 have hb:∀i,d.testBit i=true→A.testBit i=true:=fun i hi=>by
  have:=congrArg (fun z:Nat=>z.testBit i) hd
  simp only[Nat.testBit_and,hi,Bool.true_and]at this
  exact this
 apply Nat.eq_of_testBit_eq
 intro i
 unfold iq
 cases b with
 |true=>
  simp only[if_true,Nat.testBit_and,Nat.testBit_or,Nat.testBit_two_pow]
  by_cases hi:n=i
  ·subst hi;simp[hA]
  ·cases hq:d.testBit i
   ·simp[hi]
   ·simp[hb i hq]
 |false=>
  simp only[Bool.false_eq_true,if_false,Nat.testBit_and,Nat.testBit_xor,Nat.testBit_two_pow]
  cases hq:d.testBit i
  ·simp
  ·simp[hb i hq]
theorem aaq(a:Nat)(t r s mem dur slots bR:Int)(ht:0≤t∧t≤65535)(ha:a≤15)(hr:0≤r∧r<bR)(hs:0≤s∧s<slots)(hmem:0≤mem∧mem≤4294967295)(hd:0≤dur∧dur≤1000)(hrd:bR≤16)(hsl:slots≤256):
  bp (qi (t,(a:Int),r,s,mem,()) dur slots bR)=true∧(qi (t,(a:Int),r,s,mem,()) dur slots bR).2.1=(a:Int)∧(qi (t,(a:Int),r,s,mem,()) dur slots bR).2.2.1<bR∧(qi (t,(a:Int),r,s,mem,()) dur slots bR).2.2.2.1<slots∧(qi (t,(a:Int),r,s,mem,()) dur slots bR).2.2.2.2.1=mem:=by
 have w1:IntKind.i64.wrap (s+1)=s+1:=by rw[wrap_i64]<;>omega
 have w2:IntKind.i64.wrap (t+dur)=t+dur:=by rw[wrap_i64]<;>omega
 have w3:IntKind.i64.wrap (r+1)=r+1:=by rw[wrap_i64]<;>omega
 have t1:0≤Int.tmod (t+dur) 65536∧Int.tmod (t+dur) 65536≤65535:=by
  rw[Int.tmod_eq_emod_of_nonneg (by omega)];omega
 have t2:0≤Int.tmod (r+1) bR∧Int.tmod (r+1) bR<bR:=by
  rw[Int.tmod_eq_emod_of_nonneg (by omega)]
  exact⟨Int.emod_nonneg _ (by omega),Int.emod_lt_of_pos _ (by omega)⟩
 unfold qi
 simp only[w1,w2,w3]
 cases hq:(s+1==slots)
 ·have hne:s+1≠slots:=by simpa using hq
  refine⟨?_,rfl,hr.2,by show s+1<slots;omega,rfl⟩
  unfold bp
  simp only[Bool.and_eq_true]
  exact⟨⟨⟨⟨aO.2 t1,aO.2 ⟨by omega,by omega⟩⟩,aO.2 ⟨by omega,by omega⟩⟩,aO.2 ⟨by omega,by omega⟩⟩,aO.2 hmem⟩
 ·refine⟨?_,rfl,t2.2,by show 0<slots;omega,rfl⟩
  unfold bp
  simp only[Bool.and_eq_true]
  exact⟨⟨⟨⟨aO.2 t1,aO.2 ⟨by omega,by omega⟩⟩,aO.2 ⟨by omega,by omega⟩⟩,aO.2 ⟨by omega,by omega⟩⟩,aO.2 hmem⟩
theorem Xc {m:ae.T}{st:ab.T}(a d:Nat)(ha:a<m.2.2.1.length)(hst:bp st=true)(h1:st.2.1=(a:Int))(h2:st.2.2.1<m.2.2.1[a].1)(h3:st.2.2.2.1<m.2.2.1[a].2.1)(h4:st.2.2.2.2.1=(d:Int))(h5:d&&& cB m.2.1=d):aA m st=true:=by
 unfold aA
 rw[hst,h1,Int.toNat_natCast,List.getElem?_eq_getElem ha,h4,Int.toNat_natCast]
 simp only[Bool.true_and,Bool.and_eq_true,decide_eq_true_eq]
 exact⟨h2,h3,h5⟩
theorem Yc {m:ae.T}{st:ab.T}(x:ar.T)(h:aY m=true)(hb:aA m st=true):aA m (iQ m st x)=true∧(iQ m st x).2.1=st.2.1:=by
 obtain⟨a,ha,ea,b0,b1,c0,c1,hr,hs⟩:=Fe h hb
 obtain⟨_,_,q3⟩:=d5 m st h hb
 obtain⟨D,hD,hD2⟩:=vq q3
 obtain⟨n,hn,hn2⟩:=EJ q3
 obtain⟨d,hdd,hd2⟩:=tn hb
 obtain⟨_,hno,hmo,_,_⟩:=fC h
 have hl16:=(df hmo).1
 have hA:(cB m.2.1).testBit n=true:=by
  have hsd:=Zq h
  unfold lj at hsd
  rw[List.all_eq_true]at hsd
  obtain⟨j,hj,e⟩:=Ub m st h hb
  have:=hsd _ (List.getElem_mem hj)
  rw[Af]at this
  have hdl:bH m st=m.2.2.2.1[j].2.2.2.1:=by
   unfold bH
   rw[e,Int.toNat_natCast,List.getElem?_eq_getElem hj]
  rw[hdl]at hn
  rw[hn,Int.toNat_natCast]at this
  exact this
 have hdA:d&&& cB m.2.1=d:=by
  have hb2:=hb
  unfold aA at hb2
  rw[Bool.and_eq_true]at hb2
  have hb3:=hb2.2
  rw[ea,Int.toNat_natCast,List.getElem?_eq_getElem ha,hdd,Int.toNat_natCast]at hb3
  simp only[Bool.and_eq_true,decide_eq_true_eq]at hb3
  exact hb3.2.2
 have hst:=ow hb
 unfold bp at hst
 simp only[Bool.and_eq_true,aO]at hst
 have hlt:=Ak ((eO m st x).1==(3:Int)) hd2 hn2
 have e1:iQ m st x=qi (st.1,(a:Int),st.2.2.1,st.2.2.2.1,((iq d n ((eO m st x).1==(3:Int)):Nat):Int),()) (D:Int) m.2.2.1[a].2.1 m.2.2.1[a].1:=by
  unfold iQ Ff Pi iP
  rw[ea,Int.toNat_natCast,List.getElem?_eq_getElem ha,hD,hn,hdd,Int.toNat_natCast,Int.toNat_natCast]
 obtain⟨g1,g2,g3,g4,g5⟩:=aaq a st.1 st.2.2.1 st.2.2.2.1 ((iq d n ((eO m st x).1==(3:Int)):Nat):Int) (D:Int) m.2.2.1[a].2.1 m.2.2.1[a].1 hst.1.1.1.1 (by omega) ⟨b0,b1⟩ ⟨c0,c1⟩ ⟨by omega,by omega⟩ ⟨by omega,by omega⟩ hr.2 hs.2
 rw[←e1]at g1 g2 g3 g4 g5
 exact⟨Xc a _ ha g1 g2 g3 g4 g5 (VD _ hdA hA),by rw[g2,ea]⟩
theorem Lv {m:ae.T}{st:ab.T}(x:ar.T)(h:aY m=true)(hb:aA m st=true)(hx:ff x=true):fz (eO m st x)=true:=by
 obtain⟨_,_,x3,x4⟩:=Am hx
 have hsb:=EI x h hb
 have r1:=tk m st (eC (fR m st x) x.2.2.1)
 have r2:=tk m st (eC (fR m st x) x.2.2.2.1)
 rw[vr h hb (kU x3 hsb)]at r1
 rw[vr h hb (kU x4 hsb)]at r2
 exact Tn r1 r2
theorem RX {v:az.T}(h:fz v=true):(0≤v.2.1.2.1∧v.2.1.2.1≤7)∧(v.1≠3→v.2.1.2.1=0):=by
 rcases kP h with⟨f,rfl,hf⟩|⟨s,rfl,h0,h4,h3⟩
 ·have:=aO.1 (GU hf).2.1
  exact⟨this,fun hq=>absurd rfl hq⟩
 ·exact⟨⟨Int.le_refl 0,(show(0:Int)≤7 by decide)⟩,fun _=>rfl⟩
theorem Zr {m:ae.T}{st:ab.T}{x:ar.T}{p:Int}(h:aY m=true)(hb:aA m st=true)(hp:RV m p):RV m (qz m st x p):=by
 unfold qz
 split
 ·rename_i hq
  rw[Bool.and_eq_true]at hq
  exact .inr (aap h hb hq.2)
 ·exact hp
theorem IM {m:ae.T}{st:ab.T}{x:ar.T}{p:Int}(h:aY m=true)(hb:aA m st=true)(hp:RV m p):aA m (dP m st x p).1=true∧RV m (dP m st x p).2:=by
 obtain⟨hn,_⟩:=Yc x h hb
 have hpd:=Zr (x:=x) h hb hp
 unfold dP
 split
 ·rename_i hq
  obtain⟨q1,q2,q3⟩:=hq
  refine⟨?_,.inl rfl⟩
  obtain⟨_,_,hmo,_,_⟩:=fC h
  have hl16:=(df hmo).1
  have hpr:0≤qz m st x p∧qz m st x p<m.2.2.1.length:=by
   rcases hpd with hpd|hpd
   ·omega
   ·exact hpd
  obtain⟨a',ha',_,_,_,_,_,hr,hs⟩:=Fe h hn
  obtain⟨d,hdd,hd2⟩:=tn hn
  have hdA:d&&& cB m.2.1=d:=by
   have hb2:=hn
   unfold aA at hb2
   rw[Bool.and_eq_true]at hb2
   have hb3:=hb2.2
   split at hb3
   ·cases hb3
   ·simp only[Bool.and_eq_true,decide_eq_true_eq]at hb3
    have:=hb3.2.2
    rw[hdd,Int.toNat_natCast]at this
    exact this
  have hst:=ow hn
  unfold bp at hst
  simp only[Bool.and_eq_true,aO]at hst
  generalize hy:iQ m st x=y at *
  have z1:y.2.2.1=0:=by simpa using q1
  have z2:y.2.2.2.1=0:=by simpa using q2
  generalize qz m st x p=pp at *
  obtain⟨b,rfl⟩:=Int.eq_ofNat_of_zero_le hpr.1
  have hbl:b<m.2.2.1.length:=by omega
  have hg:=(df hmo).2 _ (List.getElem_mem hbl)
  refine Xc b d hbl ?_ rfl ?_ ?_ hdd hdA
  ·unfold bp
   simp only[Bool.and_eq_true]
   exact⟨⟨⟨⟨aO.2 hst.1.1.1.1,aO.2 ⟨by omega,by omega⟩⟩,aO.2 hst.1.1.2⟩,aO.2 hst.1.2⟩,aO.2 hst.2⟩
  ·show y.2.2.1<_
   rw[z1];exact Int.lt_of_lt_of_le (by decide) hg.1.1
  ·show y.2.2.2.1<_
   rw[z2];exact Int.lt_of_lt_of_le (by decide) hg.2.1
 ·exact⟨hn,hpd⟩
end Go.Proofs.YthfgmmmeplanbaaGreatDoor
namespace Go.Proofs.YthfgmmmeplanbaaGreatDoor
open Go.RowKit
set_option linter.unusedVariables false
set_option linter.unusedSimpArgs false
theorem RY(q:Int)(h0:0≤q)(h7:q≤7):IntKind.i64.wrap (q-1)=q-1:=by rw[wrap_i64]<;>omega
theorem aar(m:ae.T)(st z:ab.T)(vs:List az.T)(ss:List ab.T)(p:Int)(l:List ar.T)(i:Nat)(hi:i<l.length)(hz:bZ m)(h:aY m=true)(hb:aA m st=true)(hall:∀x ∈ l,ff x=true)(hl:l.length≤40)(hv:vs.length≤40)(hs:ss.length≤40):
  e9 (m,st,z,vs,ss,p,l,(l.length:Int),(i:Int),())=some (.inl (m,(dP m st l[i] p).1,z,vs++ [eO m st l[i]],ss++ [st],(dP m st l[i] p).2,l,(l.length:Int),((i+1:Nat):Int),())):=by
 have hx:=hall _ (List.getElem_mem hi)
 have hk:=Zo m st l[i] hz h hb hx
 have hq:=RX (Lv l[i] h hb hx)
 have hmay:=fun to=>aaP m st to hz h hb
 unfold dP qz
 generalize eO m st l[i]=v at hk hq ⊢
 generalize iQ m st l[i]=nx at hk ⊢
 have hw:IntKind.i64.wrap (v.2.1.2.1-(1:Int))=v.2.1.2.1-1:=RY _ hq.1.1 hq.1.2
 have r1:∀ {R:Type} (y:Option R),aM (vs.length+ [v].length) y=y:=fun y=>aF (by simp;omega)
 have r2:∀ {R:Type} (y:Option R),aM (ss.length+ [st].length) y=y:=fun y=>aF (by simp;omega)
 simp only[e9,aK hi,am hi,aa,hk,hw,hmay,r1,r2,av hi (show l.length≤1099511627776 by omega),cJ,dZ]
 generalize v.2.1.2.1-(1:Int)=q
 rcases Bool.eq_false_or_eq_true (decide (q≥0))with g1|g1<;>rcases Bool.eq_false_or_eq_true (EK m st q)with g2|g2<;>rcases Bool.eq_false_or_eq_true (nx.2.2.1==(0:Int))with g3|g3<;>rcases Bool.eq_false_or_eq_true (nx.2.2.2.1==(0:Int))with g4|g4<;>rcases Bool.eq_false_or_eq_true (decide (p≥0))with g5|g5<;>
  simp only[g1,g2,g3,g4,g5,Bool.and_true,Bool.and_false,Bool.true_and,Bool.false_and,if_true,Bool.false_eq_true,if_false,true_and,false_and]<;>
  first|rfl|(rw[if_pos (of_decide_eq_true g1)];done)|(rw[if_neg (of_decide_eq_false g1)];done)|(rw[if_pos (of_decide_eq_true g5)];done)|(rw[if_neg (of_decide_eq_false g5)];done)
theorem aas(m:ae.T)(st z:ab.T)(vs:List az.T)(p:Int)(l:List ar.T)(i:Nat)(hi:i<l.length)(hz:bZ m)(h:aY m=true)(hb:aA m st=true)(hall:∀x ∈ l,ff x=true)(hl:l.length≤40)(hv:vs.length≤40):
  gy (l,m,st,z,vs,p,(i:Int),())=some (.inl (l,m,(dP m st l[i] p).1,z,vs++ [eO m st l[i]],(dP m st l[i] p).2,((i+1:Nat):Int),())):=by
 have hx:=hall _ (List.getElem_mem hi)
 have hk:=Zp m st l[i] hz h hb hx
 have hq:=RX (Lv l[i] h hb hx)
 have hmay:=fun to=>aaQ m st to hz h hb
 obtain⟨_,_,_,_,hidx⟩:=An h hb
 unfold dP qz
 generalize eO m st l[i]=v at hk hq ⊢
 generalize iQ m st l[i]=nx at hk ⊢
 have hw:IntKind.i64.wrap (v.2.1.2.1-(1:Int))=v.2.1.2.1-1:=RY _ hq.1.1 hq.1.2
 have r1:∀ {R:Type} (y:Option R),aM (vs.length+ [v].length) y=y:=fun y=>aF (by simp;omega)
 have e1:decide (v.2.1.2.1≥(1:Int))=decide (v.2.1.2.1-1≥(0:Int)):=by
  have key:∀q:Int,decide (q≥1)=decide (q-1≥0):=fun q=>by
   by_cases hq:q≥1
   ·rw[decide_eq_true hq,decide_eq_true (by omega)]
   ·rw[decide_eq_false hq,decide_eq_false (by omega)]
  exact key _
 have e3:(v.1==(3:Int))=false→decide (v.2.1.2.1-1≥(0:Int))=false:=fun h3=>by
  have h3:v.1≠3:=by simpa using h3
  have:v.2.1.2.1=0:=hq.2 h3
  rw[this];rfl
 simp only[gy,aK hi,am hi,aa,hk,hw,e1,hidx,hmay,r1,av hi (show l.length≤1099511627776 by omega),cJ,dZ]
 generalize v.2.1.2.1-(1:Int)=q at e3 ⊢
 rcases Bool.eq_false_or_eq_true (v.1==(3:Int))with g0|g0<;>rcases Bool.eq_false_or_eq_true (decide (q≥0))with g1|g1<;>rcases Bool.eq_false_or_eq_true (EK m st q)with g2|g2<;>rcases Bool.eq_false_or_eq_true (nx.2.2.1==(0:Int))with g3|g3<;>rcases Bool.eq_false_or_eq_true (nx.2.2.2.1==(0:Int))with g4|g4<;>rcases Bool.eq_false_or_eq_true (decide (p≥0))with g5|g5<;>
  (first|(exfalso;rw[e3 g0]at g1;cases g1;done)|skip)<;>
  simp only[g0,g1,g2,g3,g4,g5,Bool.and_true,Bool.and_false,Bool.true_and,Bool.false_and,if_true,Bool.false_eq_true,if_false,true_and,false_and]<;>
  first|rfl|(rw[if_pos (of_decide_eq_true g1)];done)|(rw[if_neg (of_decide_eq_false g1)];done)|(rw[if_pos (of_decide_eq_true g5)];done)|(rw[if_neg (of_decide_eq_false g5)];done)
theorem Xd(m:ae.T)(z:ab.T)(l:List ar.T)(hz:bZ m)(h:aY m=true)(hall:∀x ∈ l,ff x=true)(hl:l.length≤40):∀(k i:Nat) (st:ab.T) (vs:List az.T) (ss:List ab.T) (p:Int),i+k=l.length→aA m st=true→RV m p→vs.length=i→ss.length=i→
  ac e9 (m,st,z,vs,ss,p,l,(l.length:Int),(i:Int),())=some (.inl ((a8 m (l.drop i) st p).2.2,z,vs++(a8 m (l.drop i) st p).1,ss++(a8 m (l.drop i) st p).2.1,()))
 |0,i,st,vs,ss,p,hi,hb,hp,hv,hs=>by
  have hi:i=l.length:=by omega
  subst hi
  rw[an]
  simp only[e9,aJ,List.drop_length,a8,List.append_nil]
 |k+1,i,st,vs,ss,p,hi,hb,hp,hv,hs=>by
  have hlt:i<l.length:=by omega
  obtain⟨a1,a2⟩:=IM (x:=l[i]) (p:=p) h hb hp
  have ih:=Xd m z l hz h hall hl k (i+1) (dP m st l[i] p).1 (vs++ [eO m st l[i]]) (ss++ [st]) (dP m st l[i] p).2 (by omega) a1 a2 (by simp;omega) (by simp;omega)
  rw[an,aar m st z vs ss p l i hlt hz h hb hall hl (by omega) (by omega)]
  simp only
  rw[ih,List.drop_eq_getElem_cons hlt]
  simp only[a8,List.append_assoc,List.singleton_append]
theorem Xe(m:ae.T)(z:ab.T)(l:List ar.T)(hz:bZ m)(h:aY m=true)(hall:∀x ∈ l,ff x=true)(hl:l.length≤40):∀(k i:Nat) (st:ab.T) (vs:List az.T) (p:Int),i+k=l.length→aA m st=true→RV m p→vs.length=i→
  ac gy (l,m,st,z,vs,p,(i:Int),())=some (.inl ((a8 m (l.drop i) st p).2.2,z,vs++(a8 m (l.drop i) st p).1,()))
 |0,i,st,vs,p,hi,hb,hp,hv=>by
  have hi:i=l.length:=by omega
  subst hi
  rw[an]
  simp only[gy,aJ,List.drop_length,a8,List.append_nil]
 |k+1,i,st,vs,p,hi,hb,hp,hv=>by
  have hlt:i<l.length:=by omega
  obtain⟨a1,a2⟩:=IM (x:=l[i]) (p:=p) h hb hp
  have ih:=Xe m z l hz h hall hl k (i+1) (dP m st l[i] p).1 (vs++ [eO m st l[i]]) (dP m st l[i] p).2 (by omega) a1 a2 (by simp;omega)
  rw[an,aas m st z vs p l i hlt hz h hb hall hl (by omega)]
  simp only
  rw[ih,List.drop_eq_getElem_cons hlt]
  simp only[a8,List.append_assoc,List.singleton_append]
theorem Xf(m:ae.T)(st:ab.T)(l:List ar.T)(hz:bZ m)(h:aY m=true)(hb:aA m st=true)(hall:∀x ∈ l,ff x=true)(hl:l.length≤40):mr (m,st,l,())=some ((a8 m l st (-1)).1,(a8 m l st (-1)).2.1,(a8 m l st (-1)).2.2,()):=by
 have e:=Xd m dB l hz h hall hl l.length 0 st [] [] (-1) (by omega) hb (.inl rfl) rfl rfl
 have e:ac e9 (m,st,((0:Int),(0:Int),(0:Int),(0:Int),(0:Int),()),[],[],(-1:Int),l,(l.length:Int),(0:Int),())=_:=e
 unfold mr
 simp only[e,List.drop_zero,List.nil_append]
theorem RZ(m:ae.T)(st:ab.T)(l:List ar.T)(hz:bZ m)(h:aY m=true)(hb:aA m st=true)(hall:∀x ∈ l,ff x=true)(hl:l.length≤40):lE (m,st,l,())=some ((a8 m l st (-1)).1,(a8 m l st (-1)).2.2,()):=by
 have e:=Xe m dB l hz h hall hl l.length 0 st [] (-1) (by omega) hb (.inl rfl) rfl
 have e:ac gy (l,m,st,((0:Int),(0:Int),(0:Int),(0:Int),(0:Int),()),[],(-1:Int),(0:Int),())=_:=e
 unfold lE
 simp only[e,List.drop_zero,List.nil_append]
theorem qk(m:ae.T):∀(l:List ar.T) (st:ab.T) (p:Int),(a8 m l st p).1.length=l.length∧(a8 m l st p).2.1.length=l.length
 | [],_,_=>⟨rfl,rfl⟩
 |x::r,st,p=>by
  have:=qk m r (dP m st x p).1 (dP m st x p).2
  simp only[a8,List.length_cons]
  omega
theorem R0(m:ae.T):∀(l:List ar.T) (st:ab.T) (p:Int) (i:Nat) (hi:i<l.length),(a8 m l st p).2.1[i]? =some (a8 m (l.take i) st p).2.2
 | [],_,_,i,h=>by simp at h
 |x::r,st,p,0,_=>by simp[a8]
 |x::r,st,p,i+1,h=>by
  simp only[a8,List.getElem?_cons_succ,List.take_succ_cons]
  exact R0 m r _ _ i (by simpa using h)
theorem Na {m:ae.T}(h:aY m=true):∀(l:List ar.T) (st:ab.T) (p:Int),aA m st=true→RV m p→(∀s ∈ (a8 m l st p).2.1,aA m s=true)∧aA m (a8 m l st p).2.2=true
 | [],st,p,hb,hp=>⟨fun s hs=>(by cases hs),hb⟩
 |x::r,st,p,hb,hp=>by
  obtain⟨a1,a2⟩:=IM (x:=x) (p:=p) h hb hp
  obtain⟨i1,i2⟩:=Na h r (dP m st x p).1 (dP m st x p).2 a1 a2
  refine⟨fun s hs=> ?_,i2⟩
  simp only[a8]at hs
  rcases List.mem_cons.1 hs with rfl|hs
  ·exact hb
  ·exact i1 s hs
end Go.Proofs.YthfgmmmeplanbaaGreatDoor
namespace Go.Proofs.YthfgmmmeplanbaaGreatDoor
open Go.RowKit
set_option linter.unusedVariables false
set_option linter.unusedSimpArgs false
theorem aat(m:ae.T)(st:ab.T)(l:List ar.T)(hz:bZ m)(hl:l.length≤1048576)(hs:∀x ∈ l,jU x):pw (m,st,l,())=some (if cv m st l=0 then((a8 m l st (-1)).1,(a8 m l st (-1)).2.2,(0:Int),())else([],dB,cv m st l,())):=by
 have hc:=RP m st l hz hl hs
 unfold pw
 simp only[hc]
 by_cases h:cv m st l=0
 ·obtain⟨h1,h2,h3,h4⟩:=qj h
  have hr:=Xf m st l hz h1 h2 h4 h3
  have k0:(cv m st l != 0)=false:=by rw[h];rfl
  rw[if_pos h]
  simp only[k0,hr]
 ·have k0:(cv m st l != 0)=true:=by simpa using h
  rw[if_neg h]
  simp only[k0]
  rfl
theorem aau(m:ae.T)(st:ab.T)(l:List ar.T)(hz:bZ m)(hl:l.length≤1048576)(hs:∀x ∈ l,jU x):pB (m,st,l,())=some (if cv m st l=0 then((a8 m l st (-1)).1,(a8 m l st (-1)).2.2,(0:Int),())else([],dB,cv m st l,())):=by
 have hc:=RQ m st l hz hl hs
 unfold pB
 simp only[hc]
 by_cases h:cv m st l=0
 ·obtain⟨h1,h2,h3,h4⟩:=qj h
  have hr:=RZ m st l hz h1 h2 h4 h3
  have k0:(cv m st l != 0)=false:=by rw[h];rfl
  rw[if_pos h]
  simp only[k0,hr]
 ·have k0:(cv m st l != 0)=true:=by simpa using h
  rw[if_neg h]
  simp only[k0]
  rfl
end Go.Proofs.YthfgmmmeplanbaaGreatDoor
namespace Go.Proofs.YthfgmmmeplanbaaGreatDoor
open Go.RowKit
set_option linter.unusedVariables false
set_option linter.unusedSimpArgs false
theorem Xg(l:List ar.T)(q:Int)(hl:l.length≤1048576)(hd:∀v ∈ l,pJ v)(h0:0≤q)(h1:q≤100000000000000):∃(s':List ar.T) (q':Int),qu (l,q,())=some (q',s',())∧q≤q'∧q'≤q+8796095119360:=by
 obtain⟨s',q',e,a,b⟩:=pI (B:=fw) l.length pJ 8388610 (by omega) (fun s q hs=>by simp only[fw,hs,aJ]) (fun s q i hi hs hp q0 q1=>by
  have h':i<s.length:=by omega
  have w1:IntKind.i64.wrap (q+1)=q+1:=fx (by omega) (by omega)
  have w2:IntKind.i64.wrap (q+1+1)=q+1+1:=fx (by omega) (by omega)
  have hs':(s.length:Int)=(l.length:Int):=by rw[hs]
  obtain⟨l1,l2⟩:=hp _ (List.getElem_mem h')
  have hm:iC (s[i].2.2.1,q+1+1,())=_:=GM (s[i].2.2.1,q+1+1,()) (Nat.le_trans l1 (by omega))
  have hq:=Rb s[i].2.2.1 (Nat.le_trans l1 (by omega)) (q+1+1) (by omega) (by omega)
  have hm2:iC (s[i].2.2.2.1,(cg i8 s[i].2.2.1 (q+1+1)).2,())=_:=GM (s[i].2.2.2.1,(cg i8 s[i].2.2.1 (q+1+1)).2,()) (Nat.le_trans l2 (by omega))
  have hq2:=Rb s[i].2.2.2.1 (Nat.le_trans l2 (by omega)) (cg i8 s[i].2.2.1 (q+1+1)).2 (by omega) (by omega)
  simp only[fw,hs',aK hi,av hi (show l.length≤1099511627776 by omega),am h',aa,w1,w2,hm,hm2,Int.toNat_natCast,List.getElem?_eq_getElem h',List.length_set,au,List.getElem?_set,List.set_set,List.getElem?_set_self,Int.natCast_nonneg,if_true,h']
  refine⟨_,_,rfl,by rw[List.length_set];exact hs,fun v hv=> ?_,by omega,by omega⟩
  rcases List.mem_or_eq_of_mem_set hv with hv|hv
  ·exact hp v hv
  ·rw[hv]
   refine⟨?_, ?_⟩
   ·show(cg i8 s[i].2.2.1 (q+1+1)).1.length≤1048576
    rw[lZ]
    exact l1
   ·show(cg i8 s[i].2.2.2.1 (cg i8 s[i].2.2.1 (q+1+1)).2).1.length≤1048576
    rw[lZ]
    exact l2) l.length 0 l q (by omega) rfl hd h0 (by omega)
 have e:ac fw (l,q,(0:Int),())=_:=e
 refine⟨s',q', ?_,a,by omega⟩
 unfold qu
 simp only[e]
end Go.Proofs.YthfgmmmeplanbaaGreatDoor
namespace Go.Proofs.YthfgmmmeplanbaaGreatDoor
open Go.RowKit
set_option linter.unusedVariables false
set_option linter.unusedSimpArgs false
def eA(v:az.T)(q:Int):az.T:=(q,(q+1,q+1+1,(q+1+1+1,q+1+1+1+1,q+1+1+1+1+1,q+1+1+1+1+1+1,q+1+1+1+1+1+1+1,()),(cg qc v.2.1.2.2.2.1 (q+1+1+1+1+1+1+1+1)).1,()),())
def dL(v:az.T)(q:Int):Int:=(cg qc v.2.1.2.2.2.1 (q+1+1+1+1+1+1+1+1)).2
def aa6:List az.T→Int→List az.T×Int
 | [],q=>([],q)
 |v::r,q=>(eA v q::(aa6 r (dL v q)).1,(aa6 r (dL v q)).2)
theorem ab2 {v:az.T}{q:Int}(hv:v.2.1.2.2.2.1.length≤32)(h0:0≤q)(h1:q≤1000000):q≤dL v q∧dL v q≤q+40:=by
 have:=XJ v.2.1.2.2.2.1 (Nat.le_trans hv (by omega)) (q+1+1+1+1+1+1+1+1) (by omega) (by omega)
 unfold dL
 omega
theorem acg(s:List az.T)(q:Int)(i:Nat)(hi:i<s.length)(hl:s.length≤40)(hv:s[i].2.1.2.2.2.1.length≤32)(h0:0≤q)(h1:q≤1000000):aa9 (s,q,(i:Int),())=some (.inl (s.set i (eA s[i] q),dL s[i] q,((i+1:Nat):Int),())):=by
 have w:∀z:Int,0≤z→z≤2000000→IntKind.i64.wrap (z+1)=z+1:=fun z a b=>fx (by omega) (by omega)
 have w1:=w q (by omega) (by omega)
 have w2:=w (q+1) (by omega) (by omega)
 have w3:=w (q+1+1) (by omega) (by omega)
 have w4:=w (q+1+1+1) (by omega) (by omega)
 have w5:=w (q+1+1+1+1) (by omega) (by omega)
 have w6:=w (q+1+1+1+1+1) (by omega) (by omega)
 have w7:=w (q+1+1+1+1+1+1) (by omega) (by omega)
 have w8:=w (q+1+1+1+1+1+1+1) (by omega) (by omega)
 have hm:lV (s[i].2.1.2.2.2.1,q+1+1+1+1+1+1+1+1,())=_:=Td (s[i].2.1.2.2.2.1,q+1+1+1+1+1+1+1+1,()) (Nat.le_trans hv (by omega))
 simp only[aa9,aK hi,av hi (show s.length≤1099511627776 by omega),am hi,aa,w1,w2,w3,w4,w5,w6,w7,w8,hm,Int.toNat_natCast,List.getElem?_eq_getElem hi,List.length_set,au,List.getElem?_set,List.set_set,List.getElem?_set_self,Int.natCast_nonneg,if_true,hi]
 rfl
theorem ab4:∀(rest pre:List az.T) (q:Int),(pre++rest).length≤40→(∀v ∈ rest,v.2.1.2.2.2.1.length≤32)→0≤q→q+40*(rest.length:Int)≤1000000→ac aa9 (pre++rest,q,(pre.length:Int),())=some (.inl (pre++(aa6 rest q).1,(aa6 rest q).2,()))
 | [],pre,q,hl,hv,h0,h1=>by
   rw[an,List.append_nil]
   simp only[aa9,aJ,aa6,List.append_nil]
 |v::r,pre,q,hl,hv,h0,h1=>by
  have hlen:(pre++v::r).length=pre.length+(r.length+1):=by simp
  have hi:pre.length<(pre++v::r).length:=by omega
  have hg:(pre++v::r)[pre.length]=v:=by simp
  have hv1:=hv v (by simp)
  have h1':q+40*((r.length:Int)+1)≤1000000:=by simpa using h1
  have hr:=ab2 hv1 h0 (by omega)
  have hs:=acg (pre++v::r) q pre.length hi hl (by rw[hg];exact hv1) h0 (by omega)
  rw[hg]at hs
  have hset:(pre++v::r).set pre.length (eA v q)=(pre++ [eA v q])++r:=by simp
  rw[hset]at hs
  have ih:=ab4 r (pre++ [eA v q]) (dL v q) (by simp at hl ⊢;omega) (fun u hu=>hv u (by simp[hu])) (by omega) (by omega)
  rw[an,hs]
  have hp:((pre.length+1:Nat):Int)=((pre++ [eA v q]).length:Int):=by simp
  simp only
  rw[hp,ih]
  simp only[aa6,List.append_assoc,List.singleton_append]
theorem ab5:∀(rest pre:List az.T) (q:Int),(pre++rest).length≤40→(∀v ∈ rest,v.2.1.2.2.2.1.length≤32)→0≤q→q+40*(rest.length:Int)≤1000000→ac aba (pre++(aa6 rest q).1,q,(pre.length:Int),())=some (.inl ((aa6 rest q).2,()))
 | [],pre,q,hl,hv,h0,h1=>by
   rw[an]
   simp only[aa6,List.append_nil,aba,aJ]
 |v::r,pre,q,hl,hv,h0,h1=>by
  have hv1:=hv v (by simp)
  have h1':q+40*((r.length:Int)+1)≤1000000:=by simpa using h1
  have hr:=ab2 hv1 h0 (by omega)
  have ih:=ab5 r (pre++ [eA v q]) (dL v q) (by simp at hl ⊢;omega) (fun u hu=>hv u (by simp[hu])) (by omega) (by omega)
  have ml:∀(r:List az.T) (q:Int),(aa6 r q).1.length=r.length:=by
   intro r
   induction r with
   |nil=>intro q;rfl
   |cons u r ih=>intro q;simp[aa6,ih]
  simp only[aa6]
  have hi:pre.length<(pre++eA v q::(aa6 r (dL v q)).1).length:=by simp
  have hl2:(pre++eA v q::(aa6 r (dL v q)).1).length≤1099511627776:=by
   simp[ml]at hl ⊢;omega
  have hg:(pre++eA v q::(aa6 r (dL v q)).1)[pre.length]=eA v q:=by simp
  have hidx:=am hi
  rw[hg]at hidx
  have w:∀z:Int,0≤z→z≤2000000→IntKind.i64.wrap (z+1)=z+1:=fun z a b=>fx (by omega) (by omega)
  have w1:=w q (by omega) (by omega)
  have w2:=w (q+1) (by omega) (by omega)
  have w3:=w (q+1+1) (by omega) (by omega)
  have w4:=w (q+1+1+1) (by omega) (by omega)
  have w5:=w (q+1+1+1+1) (by omega) (by omega)
  have w6:=w (q+1+1+1+1+1) (by omega) (by omega)
  have w7:=w (q+1+1+1+1+1+1) (by omega) (by omega)
  have w8:=w (q+1+1+1+1+1+1+1) (by omega) (by omega)
  have hh:abi ((cg qc v.2.1.2.2.2.1 (q+1+1+1+1+1+1+1+1)).1,q+1+1+1+1+1+1+1+1,())=some (dL v q,()):=acb v.2.1.2.2.2.1 (Nat.le_trans hv1 (by omega)) ((cg qc v.2.1.2.2.2.1 (q+1+1+1+1+1+1+1+1)).1,q+1+1+1+1+1+1+1+1,()) rfl
  have hneg:decide (dL v q<0)=false:=decide_eq_false (by omega)
  have hstep:aba (pre++eA v q::(aa6 r (dL v q)).1,q,(pre.length:Int),())=some (.inl (pre++eA v q::(aa6 r (dL v q)).1,dL v q,((pre.length+1:Nat):Int),())):=by
   have f1:(eA v q).1=q:=rfl
   have f2:(eA v q).2.1.1=q+1:=rfl
   have f3:(eA v q).2.1.2.1=q+1+1:=rfl
   have f4:(eA v q).2.1.2.2.1.1=q+1+1+1:=rfl
   have f5:(eA v q).2.1.2.2.1.2.1=q+1+1+1+1:=rfl
   have f6:(eA v q).2.1.2.2.1.2.2.1=q+1+1+1+1+1:=rfl
   have f7:(eA v q).2.1.2.2.1.2.2.2.1=q+1+1+1+1+1+1:=rfl
   have f8:(eA v q).2.1.2.2.1.2.2.2.2.1=q+1+1+1+1+1+1+1:=rfl
   have f9:(eA v q).2.1.2.2.2.1=(cg qc v.2.1.2.2.2.1 (q+1+1+1+1+1+1+1+1)).1:=rfl
   simp only[aba,aK hi,hidx,aa,f1,f2,f3,f4,f5,f6,f7,f8,f9,w1,w2,w3,w4,w5,w6,w7,w8,hh,hneg,jf,av hi hl2]
  rw[an,hstep]
  have hp:((pre.length+1:Nat):Int)=((pre++ [eA v q]).length:Int):=by simp
  have ha:pre++eA v q::(aa6 r (dL v q)).1=(pre++ [eA v q])++(aa6 r (dL v q)).1:=by simp
  simp only
  rw[hp,ha,ih]
theorem abO:∀(l:List az.T) (q:Int),(∀v ∈ l,v.2.1.2.2.2.1.length≤32)→0≤q→q+40*(l.length:Int)≤1000000→0≤(aa6 l q).2
 | [],q,_,h0,_=>h0
 |v::r,q,hv,h0,h1=>by
  have h1':q+40*((r.length:Int)+1)≤1000000:=by simpa using h1
  have hr:=ab2 (hv v (by simp)) h0 (by omega)
  exact abO r (dL v q) (fun u hu=>hv u (by simp[hu])) (by omega) (by omega)
theorem acl(l:List az.T)(hl:l.length≤40)(hv:∀v ∈ l,v.2.1.2.2.2.1.length≤32):abj (l,(1:Int),())=some ((aa6 l 1).2,(aa6 l 1).1,()):=by
 have e:=ab4 l [] 1 (by simpa using hl) hv (by omega) (by omega)
 have e:ac aa9 (l,(1:Int),(0:Int),())=some (.inl ((aa6 l 1).1,(aa6 l 1).2,())):=e
 unfold abj
 simp only[e]
theorem acd(l:List az.T)(hl:l.length≤40)(hv:∀v ∈ l,v.2.1.2.2.2.1.length≤32):abh ((aa6 l 1).1,(1:Int),())=some ((aa6 l 1).2,()):=by
 have e:=ab5 l [] 1 (by simpa using hl) hv (by omega) (by omega)
 have e:ac aba ((aa6 l 1).1,(1:Int),(0:Int),())=some (.inl ((aa6 l 1).2,())):=e
 unfold abh
 simp only[e]
theorem ack(l:List az.T)(hl:l.length≤40)(hv:∀v ∈ l,v.2.1.2.2.2.1.length≤32):abg (l,l,())=some (true,()):=by
 have e:=gY (B:=abc) l (fun i=>(l,l,(i:Int),())) (fun _=>true) (.inl ()) (.inr (false,())) (by simp only[abc,aJ]) (fun i h=>by
  have hq:=ace l[i] (Nat.le_trans (hv _ (List.getElem_mem h)) (by omega))
  simp only[abc,aK h,av h (show l.length≤1099511627776 by omega),am h,aa,hq,Bool.not_true]
  rfl)
 have e:ac abc (l,l,(0:Int),())=_:=e
 have ha:l.all (fun _=>true)=true:=by simp
 unfold abg
 simp only[e,ha,jf]
 rfl
noncomputable def ab3(m:ae.T)(st:ab.T)(l:List ar.T):List az.T×ab.T×Int×Unit:=if cv m st l=0 then((a8 m l st (-1)).1,(a8 m l st (-1)).2.2,(0:Int),())else([],dB,cv m st l,())
theorem ab8 {m:ae.T}(h:aY m=true):∀(l:List ar.T) (st:ab.T) (p:Int),aA m st=true→RV m p→(∀x ∈ l,ff x=true)→∀v ∈ (a8 m l st p).1,v.2.1.2.2.2.1.length≤32
 | [],_,_,_,_,_,v,hv=>by cases hv
 |x::r,st,p,hb,hp,hall,v,hv=>by
  obtain⟨a1,a2⟩:=IM (x:=x) (p:=p) h hb hp
  simp only[a8]at hv
  rcases List.mem_cons.1 hv with rfl|hv
  ·obtain⟨_,_,x3,x4⟩:=Am (hall x (by simp))
   have hsb:=EI x h hb
   have r1:=wJ m st (eC (fR m st x) x.2.2.1)
   have r2:=wJ m st (eC (fR m st x) x.2.2.2.1)
   rw[vr h hb (kU x3 hsb)]at r1
   rw[vr h hb (kU x4 hsb)]at r2
   exact Vx r1 r2
  ·exact ab8 h r _ _ a1 a2 (fun y hy=>hall y (by simp[hy])) v hv
theorem acf(m:ae.T)(st:ab.T)(l:List ar.T):(ab3 m st l).1.length≤40∧∀v ∈ (ab3 m st l).1,v.2.1.2.2.2.1.length≤32:=by
 unfold ab3
 split
 ·rename_i h
  obtain⟨h1,h2,h3,h4⟩:=qj h
  exact⟨by have:=(qk m l st (-1)).1;show(a8 m l st (-1)).1.length≤40;omega,ab8 h1 l st (-1) h2 (.inl rfl) h4⟩
 ·exact⟨Nat.zero_le _,fun v hv=>by cases hv⟩
theorem aco(vs:List az.T)(s:ab.T)(c:Int)(hl:vs.length≤40)(hv:∀v ∈ vs,v.2.1.2.2.2.1.length≤32):la (vs,s,c,(aa6 vs 1).1,(aa6 vs 1).2,vs,s,c,())=some (.inr (true,())):=by
 have q1:=ack vs hl hv
 have q2:wv (s,s,())=some (true,()):=XK _ rfl
 have h3:=acd vs hl hv
 have n3:=abO vs 1 hv (by omega) (by omega)
 have d3:decide ((aa6 vs 1).2<0)=false:=decide_eq_false (by omega)
 unfold la
 simp only[q1,q2,h3,d3,jf,Bool.not_true]
theorem acp(m:ae.T)(st:ab.T)(l:List ar.T)(vs:List az.T)(s:ab.T)(c:Int)(hm:za m)(hl:l.length≤1048576)(hT:∀x ∈ l,pJ x)(hvl:vs.length≤40)(hv:∀v ∈ vs,v.2.1.2.2.2.1.length≤32)(hi:pw (m,st,l,())=some (vs,s,c,())):
  abb (l,m,st,vs,s,c,m,l,vs,s,c,())=some (.inr (true,())):=by
 have q1:=ack vs hvl hv
 have q2:wv (s,s,())=some (true,()):=XK _ rfl
 have k3:=acl vs hvl hv
 have h3:=acd vs hvl hv
 have n3:=abO vs 1 hv (by omega) (by omega)
 have d3:decide ((aa6 vs 1).2<0)=false:=decide_eq_false (by omega)
 have c32:=aco vs s c hvl hv
 have t1:=Ue m hm
 have t2:=Um l hl hT
 have t3:jb (st,())=some (st,()):=rfl
 have e1:=Uf m hm
 have e2:=Un l hl hT
 obtain⟨a,m',ha,a0,a1⟩:=W0 m hm
 obtain⟨l',b,hb,b0,b1⟩:=Xg l a hl hT a0 (by omega)
 have d2:decide (b<0)=false:=decide_eq_false (by omega)
 unfold abb
 simp only[q1,q2,k3,h3,d3,c32,t1,t2,t3,e1,e2,ha,hb,d2,hi,jf,Bool.not_true,cJ,dZ]
theorem acs(m:ae.T)(st:ab.T)(l:List ar.T)(vs:List az.T)(s:ab.T)(c:Int)(hm:za m)(hl:l.length≤1048576)(hT:∀x ∈ l,pJ x)(hvl:vs.length≤40)(hv:∀v ∈ vs,v.2.1.2.2.2.1.length≤32)(hi:pw (m,st,l,())=some (vs,s,c,())):
  aa7 (l,m,st,vs,s,c,())=some (.inr (true,())):=by
 have c12:=acp m st l vs s c hm hl hT hvl hv hi
 have t1:=Ue m hm
 have t2:=Um l hl hT
 have t3:jb (st,())=some (st,()):=rfl
 unfold aa7
 simp only[c12,t1,t2,t3,hi,cJ,dZ]
theorem ab9(x)(hx:Wf (.pair ae (.pair ab (.pair (.list ar) .unit))) x):abe x=some (true,()):=by
 obtain⟨m,st,l,⟨⟩⟩:=x
 have hm:Wf ae m:=hx.1
 obtain⟨y1,hy1,b1,g1⟩:=RS m hm
 by_cases n1:y1<0
 ·unfold abe
  simp only[hy1,decide_eq_true n1]
 obtain⟨y2,hy2,b2,g2⟩:=Ul l hx.2.2.1 y1 (by omega) b1
 by_cases n2:y2<0
 ·unfold abe
  simp only[hy1,decide_eq_false n1,hy2,decide_eq_true n2]
 have hsm:=g1 (by omega)
 have hz:=qy hsm
 obtain⟨hl,hT⟩:=g2 (by omega)
 have hS:∀x ∈ l,jU x:=fun x hx=>⟨Nat.le_trans (hT x hx).1 (by omega),Nat.le_trans (hT x hx).2 (by omega)⟩
 have hi:pw (m,st,l,())=some (ab3 m st l):=aat m st l hz hl hS
 have hs':pB (m,st,l,())=some (ab3 m st l):=aau m st l hz hl hS
 have hsml:=acf m st l
 generalize ab3 m st l=r at hi hs' hsml
 obtain⟨(vs:List az.T),s,(c:Int),⟨⟩⟩:=r
 have c9:=acs m st l vs s c hsm hl hT hsml.1 hsml.2 hi
 have t1:=Ue m hsm
 have t2:=Um l hl hT
 have t3:jb (st,())=some (st,()):=rfl
 unfold abe
 simp only[hy1,decide_eq_false n1,hy2,decide_eq_false n2,c9,t1,t2,t3,hs',cJ,dZ]
end Go.Proofs.YthfgmmmeplanbaaGreatDoor
