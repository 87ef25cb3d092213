import Derived.Test.YtnambbcafhnhpaaGreatDoorQ6
import Derived.Test.YtnambbcafhnhpaaGreatDoorQ7
namespace Go.Proofs.YtnambbcafhnhpaaGreatDoor
open Go.RowKit
set_option linter.unusedVariables false
set_option linter.unusedSimpArgs false
theorem afA(a:Int)(b:Nat)(hb:b<9223372036854775808):0≤bits .and .u64 a (b:Int)∧bits .and .u64 a (b:Int)≤(b:Int):=by
 have h2:(BitVec.ofInt 64 (b:Int)).toNat=b:=by
  rw[BitVec.ofInt_natCast,BitVec.toNat_ofNat];exact Nat.mod_eq_of_lt (by omega)
 have e:bits .and .u64 a (b:Int)=IntKind.u64.wrap ((BitVec.ofInt 64 a&&& BitVec.ofInt 64 (b:Int)).toNat:Int):=rfl
 have hle:(BitVec.ofInt 64 a&&& BitVec.ofInt 64 (b:Int)).toNat≤b:=by
  rw[BitVec.toNat_and,h2]
  exact Nat.and_le_right
 have hw:IntKind.u64.wrap ((BitVec.ofInt 64 a&&& BitVec.ofInt 64 (b:Int)).toNat:Int)=((BitVec.ofInt 64 a&&& BitVec.ofInt 64 (b:Int)).toNat:Int):=by
  have hlt:(BitVec.ofInt 64 a&&& BitVec.ofInt 64 (b:Int)).toNat<9223372036854775808:=Nat.lt_of_le_of_lt hle hb
  generalize (BitVec.ofInt 64 a&&& BitVec.ofInt 64 (b:Int)).toNat=k at hlt
  simp[IntKind.wrap,IntKind.signed,IntKind.bits]
  omega
 rw[e,hw]
 omega
theorem afB(l:List Int)(n:Int)(hl:l.length≤1099511627776):∃d:Int,fM (l,n,())=some ((l,(0:Int),d,()),()):=by
 have e:=YN (B:=nY) l (fun(s:Int) i=>(l,(l,(0:Int),s,()),(i:Int),())) (fun s v=>IntKind.u64.wrap ((IntKind.u64.wrap ((IntKind.u64.wrap (s*(1099511628211:Int)))+(IntKind.u64.wrap v)))+(3:Int))) (fun s=>.inl ((l,(0:Int),s,()),())) (fun s=>by simp only[nY,bQ]) (fun s i h=>by
  simp only[nY,bH h,a7 h hl,aJ h,ac]) (IntKind.u64.wrap ((IntKind.u64.wrap (n*(7919:Int)))+(IntKind.u64.wrap (l.length:Int))))
 have e':ak nY (l,(l,(0:Int),(IntKind.u64.wrap ((IntKind.u64.wrap (n*(7919:Int)))+(IntKind.u64.wrap (l.length:Int)))),()),(0:Int),())=_:=e
 unfold fM
 simp only[e']
 exact⟨_,rfl⟩
theorem ad7(l:List Int)(d n:Int)(hb:∀b ∈ l,(0:Int)≤b∧b≤255)(hn:0<n):∃(k:Int) (q:Ty.T Fy),cd ((l,(0:Int),d,()),n,())=some (k,q,())∧0≤k∧k<n:=by
 unfold cd
 simp only
 have hne:¬n=0:=by omega
 obtain⟨a0,a1⟩:=afA (Int.fdiv (IntKind.u64.wrap ((IntKind.u64.wrap (d*(6364136223846793005:Int)))+(1442695040888963407:Int))) (2^min (33:Int).toNat IntKind.u64.bits)) 16777215 (by omega)
 have a0:0≤bits BinOp.and .u64 (Int.fdiv (IntKind.u64.wrap ((IntKind.u64.wrap (d*(6364136223846793005:Int)))+(1442695040888963407:Int))) (2^min (33:Int).toNat IntKind.u64.bits)) (16777215:Int):=a0
 have a1:bits BinOp.and .u64 (Int.fdiv (IntKind.u64.wrap ((IntKind.u64.wrap (d*(6364136223846793005:Int)))+(1442695040888963407:Int))) (2^min (33:Int).toNat IntKind.u64.bits)) (16777215:Int)≤16777215:=a1
 generalize bits BinOp.and .u64 (Int.fdiv (IntKind.u64.wrap ((IntKind.u64.wrap (d*(6364136223846793005:Int)))+(1442695040888963407:Int))) (2^min (33:Int).toNat IntKind.u64.bits)) (16777215:Int)=a at *
 have wa:IntKind.i64.wrap a=a:=by rw[wrap_i64]<;>omega
 by_cases h:(0:Int)<(l.length:Int)
 ·cases l with
  |nil=>simp at h
  |cons b r=>
   have h0:aI (b::r) (0:Int)=some b:=rfl
   obtain⟨b0,b1⟩:=hb b (by simp)
   have wb:IntKind.i64.wrap b=b:=by rw[wrap_i64]<;>omega
   have wab:IntKind.i64.wrap (a+b)=a+b:=by rw[wrap_i64]<;>omega
   simp only[decide_eq_true h,h0,ac,if_neg hne,wa,wb,wab]
   exact⟨_,_,rfl,Int.tmod_nonneg _ (by omega),Int.tmod_lt_of_pos _ hn⟩
 ·simp only[decide_eq_false h,if_neg hne,wa]
  exact⟨_,_,rfl,Int.tmod_nonneg _ (by omega),Int.tmod_lt_of_pos _ hn⟩
end Go.Proofs.YtnambbcafhnhpaaGreatDoor
namespace Go.Proofs.YtnambbcafhnhpaaGreatDoor
open Go.RowKit
set_option linter.unusedVariables false
set_option linter.unusedSimpArgs false
theorem afC(st:ao.T)(dur slots cJ:Int):(sA st dur slots cJ).2.2.2.2.1=st.2.2.2.2.1:=by
 unfold sA
 split<;>rfl
theorem aaS(d n:Nat)(b:Bool):(iB d n b).testBit n=b:=by
 unfold iB
 cases b with
 |true=>simp[Nat.testBit_or,Nat.testBit_two_pow_self]
 |false=>simp[Nat.testBit_xor,Nat.testBit_and,Nat.testBit_two_pow_self]
theorem ad8 {m:aA.T}{st:ao.T}(x:bI.T)(h:bK m=true)(hb:bc m st=true):∃d n:Nat,d<4294967296∧n<32∧(cp m st).1=(n:Int)∧(mV m st x).2.2.2.2.1=((iB d n ((ic m st x).1==(3:Int)):Nat):Int):=by
 obtain⟨a,ha,ea,b0,b1,c0,c1,hr,hs⟩:=Ss h hb
 obtain⟨_,_,q3⟩:=fL m st h hb
 obtain⟨n,hn,hn2⟩:=BD q3
 obtain⟨d,hdd,hd2⟩:=yL hb
 refine⟨d,n,hd2,hn2,hn, ?_⟩
 unfold mV F9
 rw[ea,Int.toNat_natCast,List.getElem?_eq_getElem ha]
 simp only[afC]
 unfold kH QB
 rw[hn,hdd,Int.toNat_natCast,Int.toNat_natCast]
theorem ahc(v k:Nat)(hv:v<4294967296)(hk:k<32):kL ((v:Int),(k:Int),())=some (v.testBit k,()):=by
 have h1:bf (v:Int) 0 4294967295=true:=bl.2 ⟨by omega,by omega⟩
 have h2:nT ((k:Int),())=some (bf (k:Int) 0 31,()):=WL ((k:Int),())
 have h3:bf (k:Int) 0 31=true:=bl.2 ⟨by omega,by omega⟩
 rw[h3]at h2
 unfold kL nU
 simp only[oV,h1,h2,ab5 v k hv hk,vl]
theorem Tt {m:aA.T}{st:ao.T}(x:bI.T)(h:bK m=true)(hb:bc m st=true):kL ((mV m st x).2.2.2.2.1,(cp m st).1,())=some (((ic m st x).1==(3:Int)),()):=by
 obtain⟨d,n,hd,hn,e1,e2⟩:=ad8 x h hb
 rw[e1,e2,ahc _ _ (yJ _ hd hn) hn,aaS]
theorem ahd(m:aA.T)(st:ao.T)(hz:ex m):oK (m,st,())=some ((bK m&&bc m st),()):=by
 have hM:=Qy m hz
 have hM:la ((m.1,m.2.1,m.2.2.1,m.2.2.2.1,()),())=_:=hM
 unfold oK
 simp only[hM]
 cases h:bK m with
 |false=>rfl
 |true=>
  have hB:=Uy m st h
  have hB:lX ((m.1,m.2.1,m.2.2.1,m.2.2.2.1,()),(st.1,st.2.1,st.2.2.1,st.2.2.2.1,st.2.2.2.2.1,()),())=_:=hB
  simp only[hB,Bool.true_and]
theorem ad9(k:Nat):(dd (List.replicate k (1:Int))).2.1=4:=by
 have hw:∀i:Int,i<k→dH (List.replicate k (1:Int)) i=1:=fun i hi=>by
  unfold dH
  split
  ·rfl
  ·rw[List.getD_eq_getElem?_getD,List.getElem?_replicate,if_pos (by omega)]
   rfl
 have ha:∀i,cz (jz (List.replicate k (1:Int))) i=1:=fun i=>by
  rw[afz,List.length_replicate]
  split
  ·rename_i hi
   unfold vb lD
   rw[hw _ (by omega),hw _ (by omega),hw _ (by omega),hw _ (by omega),hw _ (by omega),if_pos (by decide)]
  ·rfl
 have hf:bG (jz (List.replicate k (1:Int))) 0 0=none:=rD fun i _=>ha i
 have hc:ep (jz (List.replicate k (1:Int)))=4:=by
  unfold ep oc
  rw[hf]
 unfold dd
 rw[hc,if_neg (by decide)]
theorem acD(m:aA.T)(st:ao.T)(k:Nat):gb m st (List.replicate k (1:Int))=((0:Int),dX,()):=by
 unfold gb
 rw[ad9,if_neg (by decide),if_pos rfl]
theorem Uo(l:List Int):ez l ((5:Int),(0:Int),(0:Int),(0:Int),())=List.replicate l.length 1:=by
 have e:ez l ((5:Int),(0:Int),(0:Int),(0:Int),())=lq (fun _=>1) l (0:Int).toNat l.length:=by
  unfold ez
  rw[if_neg (show ¬(5:Int)=1 by decide),if_neg (show ¬(5:Int)=2 by decide),if_neg (show ¬(5:Int)=3 by decide),if_neg (show ¬(5:Int)=4 by decide)]
  exact if_pos rfl
 rw[e]
 unfold lq
 have h0:min (0:Int).toNat l.length=0:=Nat.zero_min _
 rw[h0,Nat.min_self,Nat.sub_zero]
 obtain⟨_,c2⟩:=Zs l.length 0 l (by omega)
 refine List.ext_getElem? fun j=> ?_
 by_cases hj:j<l.length
 ·rw[c2 j (Nat.zero_le _) hj,List.getElem?_replicate,if_pos hj]
 ·rw[List.getElem?_eq_none (by rw[s7];omega),List.getElem?_eq_none (by rw[List.length_replicate];omega)]
theorem aaT(f:bp.T):lp ((0:Int),dX,()) ((3:Int),f,())=((3:Int),f,()):=rfl
theorem acE(c:List Int)(hl:c.length≤1000000):yA (c,c,())=some (true,()):=by
 have e:=l6 (B:=jd) c (fun i=>(c,c,(i:Int),())) (fun _=>true) (.inl ()) (.inr (false,())) (by simp only[jd,bQ]) (fun i h=>by
  simp only[jd,bH h,a7 h (show c.length≤1099511627776 by omega),aJ h,ac,qs]
  rfl)
 have e:ak jd (c,c,(0:Int),())=_:=e
 have hn:((c.length:Int) != (c.length:Int))=false:=qs _
 have ha:c.all (fun _=>true)=true:=by simp
 unfold yA
 simp only[hn,e,ha]
 rfl
theorem QL(f:bp.T)(hl:f.2.2.2.1.length≤1000000):nk (f,f,())=some (true,()):=by
 have hi:=acE f.2.2.2.1 hl
 have hq:∀a:Int,(a==a)=true:=fun a=>by simp
 have hs:et ao f.2.2.1 f.2.2.1=true:=(rB _ _).2 rfl
 unfold nk
 simp only[hq,hs,hi]
theorem Kx(v:cP.T)(hl:v.2.1.2.2.2.1.length≤1000000):nl (v,v,())=some (true,()):=by
 have hq:∀a:Int,(a==a)=true:=fun a=>by simp
 unfold nl
 simp only[hq,QL v.2.1 hl]
theorem afD(m:aA.T)(st:ao.T)(hz:ex m)(h:bK m=true)(hb:bc m st=true):lY (m,st,())=some (cp m st,(0:Int),()):=by
 have hk:=KX m st hz
 simp only[h,hb]at hk
 have hk:ej ((m.1,m.2.1,m.2.2.1,m.2.2.2.1,()),(st.1,st.2.1,st.2.2.1,st.2.2.2.1,st.2.2.2.2.1,()),())=some ((0:Int),()):=hk
 obtain⟨_,hd,_⟩:=fL m st h hb
 have hd:aN ((m.1,m.2.1,m.2.2.1,m.2.2.2.1,()),(st.1,st.2.1,st.2.2.1,st.2.2.2.1,st.2.2.2.2.1,()),())=_:=hd
 unfold lY
 simp only[hk,hd]
 rfl
theorem aea {l:List Int}(hl:l.length≤4096)(hb:∀b ∈ l,(0:Int)≤b∧b≤255):∃(m:aA.T) (st:ao.T) (x:bI.T),m6 (l,())=some (m,st,x,())∧ex m∧uu x:=by
 obtain⟨s,h1,hs⟩:=afv l hl hb
 obtain⟨v2,e2,g2,hS⟩:=ahb hs
 have e2:vZ ((s.1,s.2.1,s.2.2.1,()),())=some v2:=e2
 obtain⟨v3,e3,_,hx⟩:=aaO g2
 refine⟨v2.1,v2.2.1,v3.1, ?_,Ku hS,Yo hx⟩
 unfold m6
 simp only[h1,e2,e3,cY,vq]
def ix(x:bI.T)(k:Nat):bI.T:=(x.1,x.2.1,[((5:Int),(0:Int),(0:Int),(0:Int),())],[((1:Int),(k:Int),(0:Int),(0:Int),())],())
theorem acF {x:bI.T}(hx:kb x=true)(k:Nat)(hk:k<2000):kb (ix x k)=true:=by
 obtain⟨x1,x2,_,_⟩:=uv hx
 have s1:eR [((5:Int),(0:Int),(0:Int),(0:Int),())]=true:=rfl
 have s2:eR [((1:Int),(k:Int),(0:Int),(0:Int),())]=true:=by
  have hf:gz ((1:Int),(k:Int),(0:Int),(0:Int),())=true:=by
   have h8:bf (k:Int) 0 8192=true:=bl.2 ⟨by omega,by omega⟩
   have h1:bf (1:Int) 1 6=true:=rfl
   show(bf (1:Int) 1 6&&(bf (k:Int) 0 8192&&((if C2 (1:Int)then bf (0:Int) 1 8192 else(0:Int)==(0:Int))&&(if F8 (1:Int)then bf (0:Int) 0 1 else(0:Int)==(0:Int)))))=true
   rw[h8,h1]
   rfl
  unfold eR
  simp only[List.all_cons,hf,List.all_nil,Bool.and_self,Bool.and_true]
  rfl
 have e1:(ix x k).1=x.1:=rfl
 have e2:(ix x k).2.1=x.2.1:=rfl
 have e3:(ix x k).2.2.1= [((5:Int),(0:Int),(0:Int),(0:Int),())]:=rfl
 have e4:(ix x k).2.2.2.1= [((1:Int),(k:Int),(0:Int),(0:Int),())]:=rfl
 unfold kb
 rw[e1,e2,e3,e4,x1,x2,s1,s2]
 rfl
theorem QM(l:List Int)(f:bk.T):gc l [f]=ez l f:=rfl
theorem Tu {m:aA.T}{st:ao.T}{x:bI.T}(h:bK m=true)(hs:c7 m st (b7 m st x.1 x.2.1)=true)(k:Nat):ic m st (ix x k)=((3:Int),b7 m st x.1 x.2.1,()):=by
 have hsent:ib m st (ix x k)=cj (d5 m st (b7 m st x.1 x.2.1)):=by
  unfold ib
  exact if_pos hs
 have g1:(ix x k).2.2.1= [((5:Int),(0:Int),(0:Int),(0:Int),())]:=rfl
 have g2:(ix x k).2.2.2.1= [((1:Int),(k:Int),(0:Int),(0:Int),())]:=rfl
 unfold ic
 rw[hsent,g1,g2,QM,QM,Uo,acD,acC h hs]
 exact aaT _
theorem acG {l:List Int}{u:Unit}{m:aA.T}{st s1 s2:ao.T}{x:bI.T}{v:cP.T}{d:cq.T}{f:bp.T}{X:List Int}{b:Bool}{dc:Int}{q:Fy.T}{k:Int}(hbig:¬(l.length:Int)>4096)(hd:m6 (l,())=some (m,st,x,()))(i1:gE (m,st,x,())=some (v,s1,(0:Int),()))(e1:un (m,st,x,())=some (v,s1,(0:Int),()))(k1:nl (v,v,())=some (true,()))
  (i2:r7 (x,())=some (b,())) (e2:uZ (x,())=some (b,())) (hdf:lY (m,st,())=some (d,(0:Int),())) (hbel:oK (m,s1,())=some (true,())) (hmem:kL (s1.2.2.2.2.1,d.1,())=some ((v.1==(3:Int)),())) (hfr:ql (m,st,x.1,x.2.1,())=some (f,(0:Int),())) (hsl:kp (m,st,f,())=some (X,(0:Int),())) (hpos:0<X.length)
  (r1:fM (l,(3201:Int),())=some ((l,(0:Int),dc,()),())) (r2:cd ((l,(0:Int),dc,()),(2000:Int),())=some (k,q,())) (i3:gE (m,st,(x.1,x.2.1,[((5:Int),(0:Int),(0:Int),(0:Int),())],[((1:Int),k,(0:Int),(0:Int),())],()),())=some (((3:Int),f,()),s2,(0:Int),())) (k3:nk (f,f,())=some (true,())) (hmem2:kL (s2.2.2.2.2.1,d.1,())=some (true,())):nJ (l,u)=some (true,()):=by
 have hb0:∀a:Int,(a != a)=false:=qs
 have hb1:∀a:Bool,(a != a)=false:=Qi
 have hst:∀z:ao.T,(!(et ao z z))=false:=fun z=>by rw[(rB z z).2 rfl];rfl
 have hz1:((0:Int) != 0)=false:=rfl
 have hz2:((0:Int)==0)=true:=rfl
 have hz3:((3:Int)==3)=true:=rfl
 have hp:decide ((X.length:Int)>0)=true:=decide_eq_true (by omega)
 have c18:kR (d,f,X,(0:Int),((3:Int),f,()),s2,(0:Int),())=some (.inr (true,())):=by
  unfold kR
  simp only[hz2,hp,hz3,k3,hmem2]
 have hf:(f.1,f.2.1,f.2.2.1,f.2.2.2.1,())=f:=rfl
 have c17:je (l,m,st,x,d,f,X,(0:Int),())=some (.inr (true,())):=by
  unfold je
  simp only[r1,ac,r2,i3,hf,c18]
 unfold nJ KI
 simp only[decide_eq_false hbig,hd,i1,e1,hb0,k1,Bool.not_true,hst,i2,e2,hb1,hz1,hdf,hbel,hmem,hfr,hsl,c17]
theorem acH(x)(hx:Wf (.pair (.list (.int .u8)) .unit) x):nJ x=some (true,()):=by
 obtain⟨(l:List Int),u⟩:=x
 by_cases hbig:(l.length:Int)>4096
 ·unfold nJ KI
  simp only[decide_eq_true hbig]
 ·have hb:=adZ hx.1
  obtain⟨m,st,x,hd,hz,hs⟩:=aea (l:=l) (by omega) hb
  have ei:=Zi m st x hz hs
  have es:=aft m st x hz hs
  have hb0:∀a:Int,(a != a)=false:=qs
  have hb1:∀a:Bool,(a != a)=false:=Qi
  have hst:∀z:ao.T,(!(et ao z z))=false:=fun z=>by rw[(rB z z).2 rfl];rfl
  have i2:=Zf x hs
  have e2:=Ze x hs
  by_cases h0:iU m st [x]=0
  ·obtain⟨h1,h2,_,h4⟩:=Sv h0
   have hxB:=h4 x (by simp)
   obtain⟨x1,x2,_,_⟩:=uv hxB
   have er:vH m st x=(ic m st x,mV m st x,(0:Int),()):=by
    unfold vH
    rw[if_pos h0]
   rw[er]at ei es
   have hvl:(ic m st x).2.1.2.2.2.1.length≤1000000:=by
    rcases oG (aaH x h1 h2 hxB)with⟨f,e,hf⟩|⟨s,e,_⟩
    ·rw[e]
     have:=s6 hf
     show f.2.2.2.1.length≤1000000
     omega
    ·rw[e]
     exact Nat.zero_le _
   have k1:=Kx (ic m st x) hvl
   have hdf:=afD m st hz h1 h2
   have hbel:=ahd m (mV m st x) hz
   rw[h1,(adW x h1 h2).1]at hbel
   have hbel:oK (m,mV m st x,())=some (true,()):=hbel
   have hmem:=Tt x h1 h2
   have hfr:=Ga m st x.1 x.2.1 hz h1 h2 x1 x2
   by_cases hsb:c7 m st (b7 m st x.1 x.2.1)=true
   ·rw[if_pos hsb]at hfr
    have hfl:=yK h1 h2 x.1 x.2.1
    have hsl:=Zb m st (b7 m st x.1 x.2.1) hz (by omega)
    rw[if_pos (Gb h1 h2 hsb)]at hsl
    obtain⟨dc,r1⟩:=afB l 3201 (by omega)
    obtain⟨kz,q,r2,r3,r4⟩:=ad7 l dc 2000 hb (by omega)
    obtain⟨k,rfl⟩:∃k:Nat,kz=(k:Int):=⟨kz.toNat,by omega⟩
    have hxf:=acF hxB k (by omega)
    have i3:=Zi m st (ix x k) hz ⟨Nat.le_add_left 1 _,Nat.le_add_left 1 _⟩
    have er3:vH m st (ix x k)=(ic m st (ix x k),mV m st (ix x k),(0:Int),()):=by
     unfold vH
     rw[if_pos]
     unfold iU
     simp only[h1,h2,List.all_cons,List.all_nil,hxf]
     rfl
    rw[er3,Tu h1 hsb k]at i3
    have hmem2:=Tt (ix x k) h1 h2
    rw[Tu h1 hsb k]at hmem2
    have k3:=QL (b7 m st x.1 x.2.1) (by omega)
    have hpos:0<(cj (d5 m st (b7 m st x.1 x.2.1))).length:=by
     rw[rC,Kw,qy]
     omega
    exact acG hbig hd ei es k1 i2 e2 hdf hbel hmem hfr hsl hpos r1 r2 i3 k3 hmem2
   ·rw[if_neg hsb]at hfr
    have h5:((5:Int) != 0)=true:=rfl
    have h55:((5:Int)==5)=true:=rfl
    have hz1:((0:Int) != 0)=false:=rfl
    unfold nJ KI
    simp only[decide_eq_false hbig,hd,ei,es,hb0,k1,Bool.not_true,hst,i2,e2,hb1,hz1,hdf,hbel,hmem,hfr,h5,h55]
  ·have er:vH m st x=(((0:Int),dX,()),fK,iU m st [x],()):=by
    unfold vH
    rw[if_neg h0]
   rw[er]at ei es
   have k1:=Kx ((0:Int),dX,()) (Nat.zero_le _)
   have hz1:(iU m st [x] != 0)=true:=by simpa using h0
   unfold nJ KI
   simp only[decide_eq_false hbig,hd,ei,es,hb0,k1,Bool.not_true,hst,i2,e2,hb1,hz1]
end Go.Proofs.YtnambbcafhnhpaaGreatDoor
