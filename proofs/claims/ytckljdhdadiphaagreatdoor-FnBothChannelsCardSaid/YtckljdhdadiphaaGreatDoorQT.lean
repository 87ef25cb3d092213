import Derived.Test.YtckljdhdadiphaaGreatDoorQR
import Derived.Test.YtckljdhdadiphaaGreatDoorQ7
namespace Go.Proofs.YtckljdhdadiphaaGreatDoor
open Go.RowKit
set_option linter.unusedVariables false
set_option linter.unusedSimpArgs false
theorem like_ints(c:List Int)(hl:c.length≤1000000):jL (c,c,())=some (true,()):=by
 have e:=ju (B:=dp) c (fun i=>(c,c,(i:Int),())) (fun _=>true) (.inl ()) (.inr (false,())) (by simp only[dp,bu]) (fun i h=>by
  simp only[dp,bj h,aL h (show c.length≤1099511627776 by omega),au h,ab,gW]
  rfl)
 have e:ac dp (c,c,(0:Int),())=_:=e
 have hn:((c.length:Int) != (c.length:Int))=false:=gW _
 have ha:c.all (fun _=>true)=true:=by simp
 unfold jL
 simp only[hn,e,ha]
 rfl
theorem like_frame(f:ba.T)(hl:f.2.2.2.1.length≤1000000):kx (f,f,())=some (true,()):=by
 have hi:=like_ints f.2.2.2.1 hl
 have hq:∀a:Int,(a==a)=true:=fun a=>by simp
 have hs:cS ak f.2.2.1 f.2.2.1=true:=by simp[cS]
 unfold kx
 simp only[hq,hs,hi]
theorem like_verdict(v:bI.T)(hl:v.2.1.2.2.2.1.length≤1000000):dq (v,v,())=some (true,()):=by
 have hq:∀a:Int,(a==a)=true:=fun a=>by simp
 unfold dq
 simp only[hq,like_frame v.2.1 hl]
theorem recvR_parts {m:ar.T}{st:ak.T}{X:List Int}(h0:(bU m st X).2.1=0):bL m=true∧aP m st=true∧bJ X=true:=by
 unfold bU at h0
 cases h1:bL m with
 |false=>rw[h1]at h0;exact absurd h0 (show ¬(1:Int)=0 by decide)
 |true=>
  cases h2:aP m st with
  |false=>rw[h1,h2]at h0;exact absurd h0 (show ¬(2:Int)=0 by decide)
  |true=>
   cases h3:bJ X with
   |false=>rw[h1,h2,h3]at h0;exact absurd h0 (show ¬(2:Int)=0 by decide)
   |true=>exact⟨rfl,rfl,rfl⟩
theorem i_verdV(v:bI.T)(h:v.2.1.2.2.2.1.length≤1099511627776):gV (v,())=some (fc v,()):=by
 have hf:cV (v.2.1,())=some (bA v.2.1,()):=GE (v.2.1,()) h
 have hs:fR (v.2.1,((0:Int),(0:Int),((0:Int),(0:Int),(0:Int),(0:Int),(0:Int),()),([]:List Int),()),())=_:=xx _ h
 have e0:gV (v,())=match(v.1==(3:Int))with
  |true=>match cV (v.2.1,())with
   |none=>none
   |some v1=>some (v1.1,())
  |false=>match cn (v.1,(0:Int),(4:Int),())with
   |none=>none
   |some v2=>match v2.1 with
    |true=>match fR (v.2.1,((0:Int),(0:Int),((0:Int),(0:Int),(0:Int),(0:Int),(0:Int),()),([]:List Int),()),())with
     |none=>none
     |some v3=>some (v3.1,())
    |false=>some (false,()):=rfl
 rw[e0,hf,hs]
 unfold fc
 simp only[oY]
 rcases Bool.eq_false_or_eq_true (v.1==(3:Int))with h1|h1<;>rcases Bool.eq_false_or_eq_true (aY v.1 0 4)with h2|h2<;>simp only[h1,h2]<;>simp
theorem Vh {a b:bI.T}(ha:fc a=true)(hb:fc b=true):fP b a=fP a b:=by
 rcases oH ha with⟨f,rfl,hf⟩|⟨s,rfl,h0,h4,h3⟩<;>rcases oH hb with⟨g,rfl,hg⟩|⟨s',rfl,h0',h4',h3'⟩
 ·unfold fP
  show(if((3:Int)==3&&((3:Int)==3&&bd g f))=true then((3:Int),g,())else _)=(if((3:Int)==3&&((3:Int)==3&&bd f g))=true then((3:Int),f,())else _)
  by_cases h:f=g
  ·subst h;rfl
  ·have h1:bd f g=false:=by
    cases h1:bd f g with
    |false=>rfl
    |true=>exact absurd ((oG f g).1 h1) h
   have h2:bd g f=false:=by
    cases h2:bd g f with
    |false=>rfl
    |true=>exact absurd ((oG g f).1 h2).symm h
   rw[h1,h2];rfl
 ·have e3:(s'==(3:Int))=false:=by simp[h3']
  unfold fP
  show(if(s'==(3:Int)&&((3:Int)==(3:Int)&&bd c6 f))=true then _ else if((s'==(3:Int)&&(3:Int)==(3:Int))||(s'==(4:Int)||(3:Int)==(4:Int)))=true then cN 4 else if(s'==(3:Int))=true then _ else if((3:Int)==(3:Int))=true then _ else _)=(if((3:Int)==3&&(s'==(3:Int)&&bd f c6))=true then _ else if(((3:Int)==3&&s'==(3:Int))||((3:Int)==4||s'==(4:Int)))=true then cN 4 else if((3:Int)==3)=true then _ else if(s'==(3:Int))=true then _ else _)
  rw[e3]
  rcases Bool.eq_false_or_eq_true (s'==(4:Int))with h|h<;>rw[h]<;>rfl
 ·have e3:(s==(3:Int))=false:=by simp[h3]
  unfold fP
  show(if((3:Int)==3&&(s==(3:Int)&&bd g c6))=true then _ else if(((3:Int)==3&&s==(3:Int))||((3:Int)==4||s==(4:Int)))=true then cN 4 else if((3:Int)==3)=true then _ else if(s==(3:Int))=true then _ else _)=(if(s==(3:Int)&&((3:Int)==(3:Int)&&bd c6 g))=true then _ else if((s==(3:Int)&&(3:Int)==(3:Int))||(s==(4:Int)||(3:Int)==(4:Int)))=true then cN 4 else if(s==(3:Int))=true then _ else if((3:Int)==(3:Int))=true then _ else _)
  rw[e3]
  rcases Bool.eq_false_or_eq_true (s==(4:Int))with h|h<;>rw[h]<;>rfl
 ·have e3:(s==(3:Int))=false:=by simp[h3]
  have e3':(s'==(3:Int))=false:=by simp[h3']
  unfold fP
  show(if(s'==(3:Int)&&(s==(3:Int)&&bd c6 c6))=true then _ else if((s'==(3:Int)&&s==(3:Int))||(s'==(4:Int)||s==(4:Int)))=true then cN 4 else if(s'==(3:Int))=true then cN s' else if(s==(3:Int))=true then cN s else cN (if s>s' then s else s'))=(if(s==(3:Int)&&(s'==(3:Int)&&bd c6 c6))=true then _ else if((s==(3:Int)&&s'==(3:Int))||(s==(4:Int)||s'==(4:Int)))=true then cN 4 else if(s==(3:Int))=true then cN s else if(s'==(3:Int))=true then cN s' else cN (if s'>s then s' else s))
  rw[e3,e3']
  rcases Bool.eq_false_or_eq_true (s==(4:Int))with h|h<;>rcases Bool.eq_false_or_eq_true (s'==(4:Int))with h'|h'<;>rw[h,h']<;>simp
  have:(if s>s' then s else s')=(if s'>s then s' else s):=by split<;>split<;>omega
  simpa using congrArg cN this
theorem aa7(a:bI.T)(h:(yJ a).length≤1000000):qD (a,())=some (a,()):=by
 have h1:et (a.2.1.2.2.2.1,())=some (a.2.1.2.2.2.1,()):=JL a.2.1.2.2.2.1 h
 unfold qD
 simp only[h1]
theorem Yb {a b:bI.T}(ha:fc a=true)(hb:fc b=true)(la:(yJ a).length≤32)(lb:(yJ b).length≤32):jU (a,b,())=some (fP a b,(0:Int),()):=by
 have h1:=i_verdV a (Nat.le_trans la (by omega))
 have h2:=i_verdV b (Nat.le_trans lb (by omega))
 have h3:=LX a b (Nat.le_trans la (by omega))
 rw[ha]at h1
 rw[hb]at h2
 rw[LY ha hb]at h3
 have h4:=aa7 (fP a b) (Nat.le_trans (LZ la lb) (by omega))
 unfold jU
 simp only[h1,h2,Bool.not_true,h3,h4]
theorem WT {l:List Int}{u:Unit}{m:ar.T}{st:ak.T}{X Y:List Int}{a b w:bI.T}(hbig:¬(l.length:Int)>4096)(hd:iP (l,())=some (m,st,X,Y,()))
  (i1:iM (m,st,X,Y,())=some (w,(0:Int),())) (s1:ly (m,st,X,Y,())=some (w,(0:Int),())) (k1:dq (w,w,())=some (true,()))
  (c1:ci (m,st,X,())=some (a,(0:Int),())) (c2:ci (m,st,Y,())=some (b,(0:Int),())) (mv:jU (a,b,())=some (w,(0:Int),())) (i2:iM (m,st,Y,X,())=some (w,(0:Int),())):gR (l,u)=some (true,()):=by
 have hb0:∀a:Int,(a != a)=false:=gW
 have hz:((0:Int)==0)=true:=rfl
 unfold gR vq
 simp only[decide_eq_false hbig,hd,i1,s1,k1,c1,c2,mv,i2,hb0,hz,Bool.not_true]
theorem JU(x)(hx:Wf (.pair (.list (.int .u8)) .unit) x):gR x=some (true,()):=by
 obtain⟨(l:List Int),u⟩:=x
 by_cases hbig:(l.length:Int)>4096
 ·unfold gR vq
  simp only[decide_eq_true hbig]
 ·have hb:=RQ hx.1
  obtain⟨m,st,X,Y,hd,hz,hX,hY⟩:=X6 (l:=l) (by omega) hb
  have i1:=Wk m st X Y hz (by omega) (by omega)
  have s1:=aaR m st X Y hz (by omega) (by omega)
  have i2:=Wk m st Y X hz (by omega) (by omega)
  have hb0:∀a:Int,(a != a)=false:=gW
  have hlen:=Wl m st X Y
  have k1:=like_verdict (lK m st X Y).1 (by omega)
  by_cases h0:(lK m st X Y).2.1=0
  ·have c1:=tx m st X hz (by omega)
   have c2:=tx m st Y hz (by omega)
   have hA:(bU m st X).2.1=0∧(bU m st Y).2.1=0:=by
    unfold lK at h0
    cases g1:(bU m st X).2.1 != (0:Int)with
    |true=>
     rw[g1]at h0
     have h0:(bU m st X).2.1=0:=h0
     rw[h0]at g1
     exact absurd g1 (by decide)
    |false=>
     cases g2:(bU m st Y).2.1 != (0:Int)with
     |true=>
      rw[g1,g2]at h0
      have h0:(bU m st Y).2.1=0:=h0
      rw[h0]at g2
      exact absurd g2 (by decide)
     |false=>exact⟨by simpa using g1,by simpa using g2⟩
   have n1:((bU m st X).2.1 != (0:Int))=false:=by rw[hA.1];rfl
   have n2:((bU m st Y).2.1 != (0:Int))=false:=by rw[hA.2];rfl
   have e1:lK m st X Y=(fP (bU m st X).1 (bU m st Y).1,(0:Int),()):=by
    unfold lK
    simp only[n1,n2]
   have va:=qH m st X
   have vb:=qH m st Y
   have e2:lK m st Y X=(fP (bU m st X).1 (bU m st Y).1,(0:Int),()):=by
    rw[←Vh va vb]
    unfold lK
    simp only[n1,n2]
   have key:∀z:bI.T×Int×Unit,z.2.1=0→z=(z.1,(0:Int),()):=fun z hz=>by
    obtain⟨a,b,⟨⟩⟩:=z
    have hz:b=0:=hz
    rw[hz]
   have mv:=Yb va vb (mL m st X) (mL m st Y)
   rw[key _ hA.1]at c1
   rw[key _ hA.2]at c2
   rw[e1]at i1 s1 k1
   rw[e2]at i2
   exact WT hbig hd i1 s1 k1 c1 c2 mv i2
  ·have hz1:((lK m st X Y).2.1 != 0)=true:=by simpa using h0
   unfold gR vq
   simp only[decide_eq_false hbig,hd,i1,s1,hb0,k1,Bool.not_true,hz1]
end Go.Proofs.YtckljdhdadiphaaGreatDoor
