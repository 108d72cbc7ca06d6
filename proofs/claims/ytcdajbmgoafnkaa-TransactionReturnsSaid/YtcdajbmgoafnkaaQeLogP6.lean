/- Texts of the proof, joined: LogP6. -/
import Derived.Test.YtcdajbmgoafnkaaQeLogP5

